/- The wrap of a law with a list of numbers and a pair of numbers. GraphRefuses returns true for every input; all reads afterwards as it read before. -/
import Derived.Test.YtoajmkplaognnaaK11
import Derived.ChangeSlices
import Derived.OpenShut
import Derived.Test.YtoajmkplaognnaaK32
set_option linter.unusedVariables false
set_option linter.unusedSimpArgs false
set_option linter.unusedSectionVars false
namespace Go.Proofs.Ytoajmkplaognnaa
set_option maxRecDepth 100000
open Go.ChangeShapes Go.WideShapes Go.ChangeAt Go.RowKit Go.Fx Go.Fx.Gr Go.Deep

/-- A slice of numbers that came in reads as numbers. -/
theorem ints_of_trod {H : Type} {enc : TypeId × Value → H} {W : World} {base n : Nat} {sp : Nat → Bool} {hd : Bool} {v : Value} {x : DataW H × List MemPlace} (h : DataW.trod enc Try.prog W base sp hd n 42 [v] = some x) :
    ∃ l : List Int, Rep W (fun _ => False) (ints l) v := by
  rcases open_ints Try.underlying42 Try.underlying3 cells3 h with ⟨h0, _⟩ | ⟨a, len, cap, zs, hcs, _, hl, hm, hzl, hx, hall, _⟩
  · simp only [List.cons.injEq, and_true] at h0
    subst h0
    exact ⟨[], none, 0, rfl, Nat.le_refl _, Nat.zero_le _, fun h => absurd rfl h⟩
  · simp only [List.cons.injEq, and_true] at hcs
    subst hcs
    have hlz : len ≤ zs.length := by rw [hzl]; split <;> omega
    have htl : (zs.take len).length = len := by rw [List.length_take]; omega
    refine ⟨zs.take len, some a, cap, by rw [htl], by rw [htl]; exact hl, by rw [htl]; exact Nat.le_trans hl hm, fun hne => ?_⟩
    have h0 : 0 < len := by
      rcases Nat.eq_zero_or_pos len with h | h
      · subst h; simp at hne
      · exact h
    have hsp : a = ⟨a.block, a.off, none⟩ := by
      have h1 := hall 0 (by omega)
      obtain ⟨b, o, s⟩ := a
      cases s with
      | none => rfl
      | some s =>
        exfalso
        simp only [World.cell?, Addr.add] at h1
        split at h1 <;> simp at h1
    refine ⟨a.block, a.off, by rw [← hsp], fun h => h, ?_, fun j x hj i hi => ?_⟩
    · have := World.block_lt_of_cell? W _ (hall 0 (by omega))
      exact this
    · have hjl : j < len := by rw [← htl]; exact (List.getElem?_eq_some_iff.1 hj).1
      rw [List.getElem?_take, if_pos hjl] at hj
      have c0 := hall j (by omega)
      rw [hsp, Addr.add_lit, List.getD_eq_getElem?_getD, hj] at c0
      obtain rfl : i = 0 := by omega
      exact ⟨_, by simpa using c0, rfl⟩

theorem okWide_array {P : Program} {w : World} {r : Reach} {base : Nat} {t e : TypeId} {n : Nat} {v : Value} (ht : P.underlying t = some (.array n e)) (h : Value.okWide P w r base t v) : ∃ cs, v = .agg cs ∧ cs.size = P.cellsOf t := by
  cases v <;> simp_all [Value.okWide]
theorem cells85 : Try.prog.cellsOf 85 = 2 := by kernel_rfl
/-- A pair of numbers that came in. -/
theorem pair_of_trod {H : Type} {enc : TypeId × Value → H} {W : World} {b0 base : Nat} {sp : Nat → Bool} {hd : Bool} {v : Value} {d : DataW H} {p : List MemPlace} (hv : Value.okWide Try.prog W .any b0 85 v) (h : DataW.Trod enc Try.prog W base sp hd 85 v d p) :
    ∃ e : Int × Int, v = .agg #[.int .i64 e.1, .int .i64 e.2] := by
  obtain ⟨cs, rfl, hsz⟩ := okWide_array Try.underlying85 hv
  obtain ⟨c0, c1, rfl⟩ := Go.Joins.array2 (hsz.trans cells85)
  obtain ⟨fuel, hf⟩ := h
  obtain ⟨xs, m, _, _, _, hl, hi⟩ := DataW.trod_array Try.underlying85 hf
  have e0 := hi 0 (by omega)
  have e1 := hi 1 (by omega)
  rw [cells3] at e0 e1
  simp [Value.cells] at e0 e1
  obtain ⟨k0, h0⟩ := int_of_trod (e0.trans (List.getElem?_eq_getElem (by omega)))
  obtain ⟨k1, h1⟩ := int_of_trod (e1.trans (List.getElem?_eq_getElem (by omega)))
  exact ⟨(k0, k1), by rw [h0, h1]⟩
end Go.Proofs.Ytoajmkplaognnaa

namespace Go.Proofs.Ytoajmkplaognnaa
open Go.ChangeShapes Go.WideShapes Go.ChangeAt Go.RowKit Go.Fx Go.Fx.Gr Go.Deep

set_option maxRecDepth 100000 in
theorem graphRefuses_lifted (os : Os) (started : os.Started) (H : Type) (enc : TypeId × Value → H) :
    ReturnsInHanded {} Try.checked os 12 .any (Rows.graphRefusesSpec.pre6 enc Try.prog Try.f12 Rows.graphRefusesRow.domain false) (Rows.graphRefusesSpec.post enc Try.prog Try.f12 false true false false) := by
  refine returnsInHanded_of_change (C := Try.checked) Try.own started (by kernel_rfl) Try.func12
    (ChangeSpec.witness6 (enc := enc) (C := Try.checked) false ⟨#[], #[.agg #[.int .i64 0, .slice none 0 0], .slice none 0 0, .agg #[.int .i64 0, .int .i64 0]], []⟩ 8 (by kernel_rfl) (by kernel_rfl) (by kernel_rfl) (by kernel_rfl)) ?_
  intro W base args ds gs before hval0 hW hcnd _
  have hW' := hW
  obtain ⟨p, q, hA0, hV, rfl, hfz, hnd⟩ := hW
  have hA : DataW.TrodAll enc Try.prog W 0 (fun _ => true) true Try.f12.params.toList args.toList ds p := hA0
  rw [Try.params12] at hA
  obtain ⟨v0, v1, v2, d0, d1, d2, p0, p1, p2, rfl, rfl, rfl, h0, h1, h2⟩ := trodAll_three hA
  obtain ⟨rfl, rfl⟩ := trodVars_none hV
  simp only [List.append_nil] at hW'
  have hval : ∀ (j : Nat) t v, Try.f12.params[j]? = some t → (#[v0, v1, v2] : Array Value)[j]? = some v → Value.okWide Try.prog W .any base t v := hval0
  rw [Try.params12] at hval
  obtain ⟨n, es, hrep⟩ := graph_of_trod (hval 0 26 v0 rfl rfl) h0
  obtain ⟨A, len, cap, rfl⟩ := okWide_slice Try.underlying42 (hval 1 42 v1 rfl rfl)
  have h1k := h1
  obtain ⟨fuel, hf⟩ := h1
  obtain ⟨l, hl⟩ := ints_of_trod (v := .slice A len cap) hf
  obtain ⟨e, rfl⟩ := pair_of_trod (hval 2 85 v2 rfl rfl) h2
  have hlt0 : ∀ x ∈ p0, x.block < W.heap.size := fun x hx => hW'.lt x (by simp [hx])
  have hlt1 : ∀ x ∈ p1, x.block < W.heap.size := fun x hx => hW'.lt x (by simp [hx])
  have hlt2 : ∀ x ∈ p2, x.block < W.heap.size := fun x hx => hW'.lt x (by simp [hx])
  refine (law_calls (ct12 n es l e) (vs := [v0, .slice A len cap, .agg #[.int .i64 e.1, .int .i64 e.2]]) ⟨hrep, hl, ⟨[.int .i64 e.1, .int .i64 e.2], rfl, rfl, rfl, trivial⟩, trivial⟩).mono fun e W' ⟨he, hB⟩ => ?_
  exact ⟨.bool true, he, [d0, d1, d2], [], p0 ++ (p1 ++ p2), [], p0 ++ (p1 ++ p2), [], by simpa using hW', trodAll_mk1 (shut_bool Try.underlying4 true),
    trodAll_mk3 (Below.trod Try.laidOut (by kernel_rfl) (of_decide_eq_true (by kernel_rfl)) h0 hB hlt0) (Below.trod Try.laidOut (by kernel_rfl) (of_decide_eq_true (by kernel_rfl)) h1k hB hlt1) (Below.trod Try.laidOut (by kernel_rfl) (of_decide_eq_true (by kernel_rfl)) h2 hB hlt2), rfl, by simpa using hB.frame _, fun h => by cases h⟩

theorem graphRefuses_holds : Rows.GraphRefusesSaid :=
  OpenClaim.holds_of_wide 12 Try.f12 rfl rfl rfl rfl rfl rfl rfl ⟨rfl, rfl, rfl, rfl, rfl⟩ rfl rfl rfl rfl rfl (by kernel_rfl) Try.func12 (by kernel_rfl)
    (of_decide_eq_true (by kernel_rfl)) (by unfold Func.isWrapper; first | (rw [if_pos (by decide +kernel)]; kernel_rfl) | (rw [if_neg (by decide +kernel)]; exact ⟨rfl, rfl⟩))
    (fun os started H enc _ => graphRefuses_lifted os started H enc)

#print axioms graphRefuses_holds
end Go.Proofs.Ytoajmkplaognnaa
