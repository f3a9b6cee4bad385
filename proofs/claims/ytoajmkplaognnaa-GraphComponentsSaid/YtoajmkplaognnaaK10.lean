/- lists, Example, known, same. GraphMakes: the walk. The wrap of a law: what the arguments read as; what is left as it was. -/
import Derived.Test.YtoajmkplaognnaaK9
import Derived.Test.YtoajmkplaognnaaRows
import Derived.ProofKit
import Derived.Deep.SlicePairs
import Derived.Carry
set_option linter.unusedVariables false
set_option linter.unusedSimpArgs false
set_option linter.unusedSectionVars false
namespace Go.Fx
open Go.Proofs Gr
set_option maxRecDepth 100000

theorem ct96 (xs ys : List (List Int)) (caps : Nat → CVal) : Ct Try.prog 96 [.one (table xs), .one (table ys), .one (.fn 29 0 caps)] (.c (.bool (decide (xs = ys)))) := by
  refine ct_of tyAll Try.func96 (by decide) rfl ?_
  conv => whnf
  intro hlen
  conv => whnf
  intro hlen2
  conv => whnf
  refine acond_split (fun h1 => ?_) (fun h1 => ?_)
  · have h1 := dec h1
    conv => whnf
    refine ⟨?_, trivial⟩
    show CVal.bool _ = CVal.bool _
    congr 1
    refine decide_eq_false fun e => h1 (by rw [e])
  have h1 := ndec h1
  conv => whnf
  have h1 : xs.length = ys.length := by omega
  intro hlen3
  conv => whnf
  refine ⟨Nat, fun k => k ≤ xs.length ∧ xs.take k = ys.take k, fun k => ⟨(sk 0 (.c (table xs) :: (sk 0 (.c (table ys) :: (sk 0 (.c (.fn 29 0 caps) :: (sk 12 (.c (table xs) :: (sk 0 (I xs.length :: (sk 0 (I k :: (sk 14 []))))))))))))), [], []⟩, fun k => xs.length - k, 0, ⟨by omega, rfl⟩, ?_, fun k hk => ?_⟩
  · repeat' (first | exact trivial | exact rfl | refine And.intro ?_ ?_)
  obtain ⟨hk, hp⟩ := hk
  conv => whnf
  refine acond_split (fun h2 => ?_) (fun h2 => ?_)
  · have h2 := dec h2
    conv => whnf
    have hx : k < xs.length := by omega
    have hy : k < ys.length := by omega
    refine ⟨xs[k], by omega, List.getElem?_eq_getElem hx, ?_⟩
    conv => whnf
    refine ⟨ys[k], by omega, List.getElem?_eq_getElem hy, ?_⟩
    conv => whnf
    refine ⟨_, ct29 xs[k] ys[k], ?_⟩
    conv => whnf
    refine acond_split (fun h3 => ?_) (fun h3 => ?_)
    · have h3 : xs[k] ≠ ys[k] := by simpa using h3
      conv => whnf
      refine ⟨?_, trivial⟩
      show CVal.bool _ = CVal.bool _
      congr 1
      refine decide_eq_false fun e => h3 ?_
      subst e
      rfl
    · have h3 : xs[k] = ys[k] := by simpa using h3
      conv => whnf
      refine ⟨_, wi _ (by omega) (by omega), ?_⟩
      conv => whnf
      refine ⟨k + 1, ⟨by omega, ?_⟩, by show xs.length - (k + 1) < xs.length - k; omega, ?_⟩
      · rw [List.take_succ_eq_append_getElem hx, List.take_succ_eq_append_getElem hy, hp, h3]
      repeat' (first | exact trivial | exact rfl | refine And.intro ?_ ?_)
  · have h2 := ndec h2
    conv => whnf
    refine ⟨?_, trivial⟩
    show CVal.bool _ = CVal.bool _
    congr 1
    have e : k = xs.length := by omega
    rw [List.take_of_length_le (by omega), List.take_of_length_le (by omega)] at hp
    exact decide_eq_true hp

theorem ct49 (xs ys : List (List Int)) : Ct Try.prog 49 [.one (table xs), .one (table ys)] (.c (.bool (decide (xs = ys)))) := by
  refine ct_of tyAll Try.func49 (by decide) rfl ?_
  conv => whnf
  refine ⟨_, ct96 xs ys _, ?_⟩
  conv => whnf
  repeat' (first | exact trivial | exact rfl | refine And.intro ?_ ?_)

def exE : Es := [(0, 1), (1, 0), (1, 2), (3, 2)]
theorem ct69 : Ct Try.prog 69 [] (.p (.agg [.c (i64 4), .row 0 (edgesR exE)])) := by
  refine ct_of tyAll Try.func69 (by decide) rfl ?_
  conv => whnf
  refine ⟨Int × Int, eC, exE, rfl, by decide, rfl, ?_⟩
  conv => whnf
  repeat' (first | exact trivial | exact rfl | refine And.intro ?_ ?_)

theorem ex_check : checkG 4 exE = 0 := by decide
theorem ex_comp : compL 4 exE = [[0, 1], [2], [3]] := by decide
theorem ex_sinks : sinksL 4 exE = [[2]] := by decide
theorem ex_single : singleE 4 exE [0] = 0 := by decide
theorem ex_tree : (treeL 4 0 fun k => lastB (pathO 4 exE 0 k)) = [-1, 0, 1, -1] := by decide
theorem ex_cyc : cycL 4 exE = some [0, 1] := by decide

theorem ct20 (n m : Int) (xs ys : Es) (hb : xs.length * 16 ≤ 140737488355328) : Ct Try.prog 20 [gA n xs, rA m ys] (.c (.bool (decide (n = m ∧ xs = ys)))) := by
  refine ct_of tyAll Try.func20 (by decide) rfl ?_
  conv => whnf
  refine draw_intro tyAll mixed 14 (by kernel_rfl) ?_
  conv => whnf
  refine acond_split (fun h1 => ?_) (fun h1 => ?_)
  · have h1 : n = m := of_decide_eq_true h1
    conv => whnf
    refine ⟨_, ct19 xs hb, ?_⟩
    conv => whnf
    refine ⟨_, ct76 xs ys, .inl (flat_bool _), ?_⟩
    conv => whnf
    refine ⟨?_, trivial⟩
    show CVal.bool _ = CVal.bool _
    congr 1
    exact decide_eq_decide.2 ⟨fun h => h.2, fun h => ⟨h1, h⟩⟩
  · have h1 : n ≠ m := of_decide_eq_false h1
    conv => whnf
    refine ⟨?_, trivial⟩
    show CVal.bool _ = CVal.bool _
    congr 1
    exact decide_eq_false fun h => h1 h.1

theorem ct14 : Ct Try.prog 14 [] (.c (.bool true)) := by
  refine ct_of tyAll Try.func14 (by decide) rfl ?_
  conv => whnf
  refine ⟨_, ct69, ?_⟩
  conv => whnf
  refine .inr (.inl ?_)
  conv => whnf
  have h45 := ct45 4 exE
  rw [compRv, if_pos ex_check, show (4 : Int).toNat = 4 from rfl, ex_comp] at h45
  refine ⟨_, h45, ?_⟩
  conv => whnf
  refine ⟨_, ct69, ?_⟩
  conv => whnf
  refine .inr (.inl ?_)
  conv => whnf
  have h39 := ct39 4 exE
  rw [sinksRv, if_pos ex_check, show (4 : Int).toNat = 4 from rfl, ex_sinks] at h39
  refine ⟨_, h39, ?_⟩
  conv => whnf
  refine ⟨_, ct69, ?_⟩
  conv => whnf
  refine .inr (.inl ?_)
  conv => whnf
  have h27 := ct27 4 exE 0
  rw [treeRv, if_pos ex_single, show (4 : Int).toNat = 4 from rfl, ex_tree] at h27
  refine ⟨_, h27, ?_⟩
  conv => whnf
  refine ⟨_, ct69, ?_⟩
  conv => whnf
  refine .inr (.inl ?_)
  conv => whnf
  have h33 := ct33 4 exE
  rw [cycRv, if_pos ex_check, show (4 : Int).toNat = 4 from rfl, ex_cyc] at h33
  refine ⟨_, h33, ?_⟩
  conv => whnf
  refine ⟨Int, fun n _ => i64 n, [0, 1], rfl, by decide, rfl, ?_⟩
  conv => whnf
  refine ⟨Int, fun n _ => i64 n, [2], rfl, by decide, rfl, ?_⟩
  conv => whnf
  refine ⟨Int, fun n _ => i64 n, [3], rfl, by decide, rfl, ?_⟩
  conv => whnf
  refine ⟨List Int, fun r _ => ints r, [[0, 1], [2], [3]], rfl, by decide, rfl, ?_⟩
  conv => whnf
  refine .inl ?_
  conv => whnf
  refine ⟨_, ct49 [[0, 1], [2], [3]] [[0, 1], [2], [3]], .inl (flat_bool _), ?_⟩
  conv => whnf
  refine ⟨Int, fun n _ => i64 n, [2], rfl, by decide, rfl, ?_⟩
  conv => whnf
  refine ⟨List Int, fun r _ => ints r, [[2]], rfl, by decide, rfl, ?_⟩
  conv => whnf
  refine .inl ?_
  conv => whnf
  refine ⟨_, ct49 [[2]] [[2]], .inl (flat_bool _), ?_⟩
  conv => whnf
  refine ⟨Int, fun n _ => i64 n, [-1, 0, 1, -1], rfl, by decide, rfl, ?_⟩
  conv => whnf
  refine .inl ?_
  conv => whnf
  refine ⟨_, ct29 [-1, 0, 1, -1] [-1, 0, 1, -1], .inl (flat_bool _), ?_⟩
  conv => whnf
  refine ⟨Int, fun n _ => i64 n, [0, 1], rfl, by decide, rfl, ?_⟩
  conv => whnf
  refine .inl ?_
  conv => whnf
  refine ⟨_, ct29 [0, 1] [0, 1], .inl (flat_bool _), ?_⟩
  conv => whnf
  repeat' (first | exact trivial | exact rfl | refine And.intro ?_ ?_)
end Go.Fx

namespace Go.Fx
open Go.Proofs Gr
set_option maxRecDepth 100000

/-- A contract for what reads as less. -/
theorem ct_weak {P : Program} {g : Nat} {args args' : List Av} {rv : Rv} (h : Ct P g args' rv) (hw : ∀ w X vs, All2 (ARep w X) args vs → All2 (ARep w X) args' vs) : Ct P g args rv :=
  ⟨h.1, fun w X vs hX hA => h.2 w X vs hX (hw w X vs hA)⟩
theorem nil_sl {α : Type} {k : Nat} {cell : α → Nat → CVal} {w : World} {X : Nat → Prop} {v : Value} (h : Rep w X .nil v) : Rep w X (.sl α k cell []) v := by
  have h : v = .slice none 0 0 := h
  subst h
  exact ⟨none, 0, rfl, Nat.le_refl _, Nat.zero_le _, fun h => absurd rfl h⟩

theorem ct20_nil (n m : Int) : Ct Try.prog 20 [.agg [i64 n, .nil], .agg [i64 m, .nil]] (.c (.bool (decide (n = m ∧ ([] : Es) = [])))) := by
  refine ct_weak (ct20 n m [] [] (by simp)) fun w X vs h => ?_
  match vs, h with
  | [a, b], ⟨⟨l, ha, hl⟩, ⟨k, hb, hk⟩, _⟩ =>
    match l, k, hl, hk with
    | [p, q], [r, s], ⟨h1, h2, _⟩, ⟨h3, h4, _⟩ => exact ⟨⟨_, ha, h1, nil_sl h2, trivial⟩, ⟨_, hb, h3, nil_sl h4, trivial⟩, trivial⟩

theorem sortedB_of {es : Es} (h : SortedL es) : sortedB es = true := by
  rw [sortedB_iff]
  intro j hj
  rw [ecmp_lt]
  exact List.pairwise_iff_getElem.1 h j (j + 1) (by omega) hj (by omega)

theorem check_of {N : Nat} (hN : N ≤ 64) {es : Es} (hes : inR N es) (hs : SortedL es) (hl : es.length ≤ N * N) : checkG N es = 0 := by
  unfold checkG
  have h2 : ¬ (N : Int) * N < es.length := by
    have : ((es.length : Nat) : Int) ≤ ((N * N : Nat) : Int) := by omega
    rw [Int.natCast_mul] at this
    omega
  rw [if_neg (by omega), if_neg h2, if_neg (by rw [any_bad, (insideB_iff _ _).2 hes]; simp), if_pos (sortedB_of hs)]

theorem mkL_in (N : Nat) (es : Es) : inR N (mkL N es) := by
  rintro ⟨a, b⟩ h
  unfold mkL at h
  obtain ⟨x, hx, h⟩ := List.mem_flatMap.1 h
  obtain ⟨y, hy, h⟩ := List.mem_filterMap.1 h
  have hx := List.mem_range.1 hx
  have hy := List.mem_range.1 hy
  split at h
  · cases h
    exact ⟨⟨by simp, by simp; omega⟩, by simp, by simp; omega⟩
  · cases h
theorem check_mk {N : Nat} (hN : N ≤ 64) (es : Es) : checkG N (mkL N es) = 0 := check_of hN (mkL_in N es) (mkL_sorted N es) (mkL_length N es)

theorem flat_mkbad (m : Int) : FlatRv (.tup [.agg [.c (i64 0), .c .nil], .one (.c (i64 m))]) := by
  intro x hx
  rcases List.mem_cons.1 hx with rfl | hx
  · intro y hy
    rcases List.mem_cons.1 hy with rfl | hy
    · exact flat_int _ _
    · rcases List.mem_cons.1 hy with rfl | hy
      · exact flat_nil
      · cases hy
  · rcases List.mem_cons.1 hx with rfl | hx
    · exact flat_int _ _
    · cases hx
theorem flat_rmk (m : Int) (es : Es) : FlatRv (.tup [.agg [.c (i64 m), .row 0 (pairsR es)], .one (.c (i64 0))]) := by
  intro x hx
  rcases List.mem_cons.1 hx with rfl | hx
  · intro x hx
    rcases List.mem_cons.1 hx with rfl | hx
    · exact flat_int _ _
    · rcases List.mem_cons.1 hx with rfl | hx
      · intro y i
        show Flat (eC y i)
        match i with
        | 0 => exact flat_int _ _
        | _ + 1 => exact flat_int _ _
      · cases hx
  · rcases List.mem_cons.1 hx with rfl | hx
    · exact flat_int _ _
    · cases hx

theorem ct3 (n : Int) (es : Es) : Ct Try.prog 3 [.one (i64 n), .one (edges es)] (.c (.bool true)) := by
  refine ct_of tyAll Try.func3 (by decide) rfl ?_
  conv => whnf
  refine ⟨_, ct14, ?_⟩
  conv => whnf
  refine ⟨_, ct15 n es, ?_⟩
  conv => whnf
  refine acond_split (fun h1 => ?_) (fun h1 => ?_)
  · have h1 : ¬ (es.length ≤ 24 ∧ (n ≤ 8 ∨ 64 < n)) := of_decide_eq_false (Eq.mp (Bool.not_eq_true' _) h1)
    conv => whnf
    refine ⟨_, ct14, ?_⟩
    conv => whnf
    repeat' (first | exact trivial | exact rfl | refine And.intro ?_ ?_)
  have h1 : es.length ≤ 24 ∧ (n ≤ 8 ∨ 64 < n) := of_decide_eq_true (Eq.mp (Bool.not_eq_false' _) h1)
  conv => whnf
  refine ⟨_, ct17 es (by omega), ?_⟩
  conv => whnf
  refine .inl ?_
  conv => whnf
  have hm := ct16 n es (by omega)
  have hr := ct18 n es
  unfold makeRv at hm
  unfold rmakeRv at hr
  by_cases hb : makeBad n es = true
  · rw [if_pos hb] at hm hr
    refine ⟨_, hm, .inl (flat_mkbad 2), ?_⟩
    conv => whnf
    refine ⟨_, ct19 es (by omega), ?_⟩
    conv => whnf
    refine .inl ?_
    conv => whnf
    refine ⟨_, hr, .inl (flat_mkbad 2), ?_⟩
    conv => whnf
    refine ⟨_, ct20_nil 0 0, ?_⟩
    conv => whnf
    repeat' (first | exact trivial | exact rfl | refine And.intro ?_ ?_)
  · rw [if_neg hb] at hm hr
    obtain ⟨N, hN, hN2⟩ : ∃ N : Nat, n = N ∧ N ≤ 64 := by
      unfold makeBad at hb
      rw [decide_eq_true_iff] at hb
      exact ⟨n.toNat, by omega, by omega⟩
    subst hN
    rw [Int.toNat_natCast] at hm hr
    refine ⟨_, hm, .inl (flat_mk _ _), ?_⟩
    conv => whnf
    refine ⟨_, ct19 es (by omega), ?_⟩
    conv => whnf
    refine .inl ?_
    conv => whnf
    refine ⟨_, hr, .inl (flat_rmk _ _), ?_⟩
    conv => whnf
    refine .inl ?_
    conv => whnf
    have hml := mkL_length N es
    have hm2 : N * N ≤ 64 * 64 := Nat.mul_le_mul hN2 hN2
    refine ⟨_, ct20 N N (mkL N es) (mkL N es) (by omega), .inl (flat_bool _), ?_⟩
    conv => whnf
    rw [show decide ((N : Int) = N ∧ mkL N es = mkL N es) = true from decide_eq_true ⟨rfl, rfl⟩]
    conv => whnf
    refine .inl ?_
    conv => whnf
    refine ⟨_, ct21 N (mkL N es), .inl (flat_int _ _), ?_⟩
    conv => whnf
    rw [check_mk hN2]
    conv => whnf
    repeat' (first | exact trivial | exact rfl | refine And.intro ?_ ?_)
end Go.Fx

namespace Go.Proofs.Ytoajmkplaognnaa
open Go.ChangeShapes Go.WideShapes Go.ChangeAt Go.RowKit Go.Fx Go.Fx.Gr Go.Deep

theorem Try.own : ownKnob Try.prog.godebug = none := by kernel_rfl
theorem Try.laidOut : laidOutB Try.prog = true := by kernel_rfl
theorem cells32 : Try.prog.cellsOf 32 = 2 := by kernel_rfl
theorem cells3 : Try.prog.cellsOf 3 = 1 := by kernel_rfl

theorem int_of_trod {H : Type} {enc : TypeId × Value → H} {W : World} {base : Nat} {sp : Nat → Bool} {hd : Bool} {n : Nat} {v : Value} {x : DataW H × List MemPlace} (h : DataW.trod enc Try.prog W base sp hd n 3 [v] = some x) : ∃ k : Int, v = .int .i64 k := by
  obtain ⟨k, e1, x1, _⟩ := DataW.trod_int Try.underlying3 h
  simp only [List.cons.injEq, and_true] at e1
  exact ⟨k, e1⟩

/-- A slice of edges that came in reads as edges. -/
theorem edges_of_cells {H : Type} {enc : TypeId × Value → H} {W : World} {base n : Nat} {sp : Nat → Bool} {hd : Bool} {v : Value} {x : DataW H × List MemPlace} (h : DataW.trod enc Try.prog W base sp hd n 22 [v] = some x) :
    ∃ es : Es, Rep W (fun _ => False) (edges es) v := by
  rcases open_slice_pairs Try.underlying22 Try.underlying32 cells32 rfl rfl cells3 cells3 h with ⟨h0, _⟩ | ⟨a, len, cap, m, n, V0, V1, D0, D1, P0, P1, hcs, _, hl, hm, hmeq, hx, hall⟩
  · simp only [List.cons.injEq, and_true] at h0
    subst h0
    exact ⟨[], none, 0, rfl, Nat.le_refl _, Nat.zero_le _, fun h => absurd rfl h⟩
  · simp only [List.cons.injEq, and_true] at hcs
    subst hcs
    have hlm : len ≤ m := by rw [hmeq]; split <;> omega
    have key : ∀ i, ∃ e : Int × Int, i < m → W.cell? (a.add (i * 2)) = some (.int .i64 e.1) ∧ W.cell? (a.add (i * 2 + 1)) = some (.int .i64 e.2) := fun i => by
      by_cases hi : i < m
      · obtain ⟨c0, c1, t0, t1⟩ := hall i hi
        obtain ⟨k0, e0⟩ := int_of_trod t0
        obtain ⟨k1, e1⟩ := int_of_trod t1
        exact ⟨(k0, k1), fun _ => ⟨by rw [c0, e0], by rw [c1, e1]⟩⟩
      · exact ⟨(0, 0), fun h => absurd h hi⟩
    obtain ⟨E, hE⟩ : ∃ E : Nat → Int × Int, ∀ i, i < m → W.cell? (a.add (i * 2)) = some (.int .i64 (E i).1) ∧ W.cell? (a.add (i * 2 + 1)) = some (.int .i64 (E i).2) := ⟨fun i => (key i).choose, fun i hi => (key i).choose_spec hi⟩
    refine ⟨(List.range len).map E, some a, cap, by simp, by simpa using hl, by rw [List.length_map, List.length_range]; exact Nat.le_trans hl hm, fun hne => ?_⟩
    have h0 : 0 < len := by
      rcases Nat.eq_zero_or_pos len with h | h
      · subst h; simp at hne
      · exact h
    have hsp : a = ⟨a.block, a.off, none⟩ := by
      have h1 := (hE 0 (by omega)).1
      obtain ⟨b, o, s⟩ := a
      cases s with
      | none => rfl
      | some s =>
        exfalso
        simp only [World.cell?, Addr.add] at h1
        split at h1 <;> simp at h1
    refine ⟨a.block, a.off, by rw [← hsp], fun h => h, ?_, fun j x hj i hi => ?_⟩
    · have := World.block_lt_of_cell? W _ (hE 0 (by omega)).1
      exact this
    · have hjl : j < len := by
        have := (List.getElem?_eq_some_iff.1 hj).1
        simpa using this
      have hx : x = E j := by
        rw [List.getElem?_map, List.getElem?_range hjl] at hj
        exact (Option.some.inj hj).symm
      subst hx
      obtain ⟨c0, c1⟩ := hE j (by omega)
      rw [hsp] at c0 c1
      rw [Addr.add_lit] at c0 c1
      rcases Nat.lt_or_ge i 1 with h | h
      · obtain rfl : i = 0 := by omega
        exact ⟨_, c0, rfl⟩
      · obtain rfl : i = 1 := by omega
        exact ⟨_, c1, rfl⟩

/-- What a contract of a law says, in the claim's words. -/
theorem law_calls {g : Nat} {args : List Av} (h : Ct Try.prog g args (.c (.bool true))) {W : World} {vs : List Value} (hA : All2 (ARep W fun _ => False) args vs) :
    Calls Try.prog g vs.toArray W fun e W' => e = .returned (.bool true) ∧ Below W.heap.size W W' :=
  (h.2 W (fun _ => False) vs (fun _ h => h.elim) hA).mono fun e W' ⟨hB, v, he, vo, _, _, hv⟩ => ⟨by rw [he]; exact congrArg _ hv, hB⟩
end Go.Proofs.Ytoajmkplaognnaa
