/- The reference's Check; plain, copied, fine. Small lemmas for the laws. The wrap of a law whose first argument is a graph. -/
import Derived.Test.YtoajmkplaognnaaK10
import Derived.Lib.SmallJoins
set_option linter.unusedVariables false
set_option linter.unusedSimpArgs false
set_option linter.unusedSectionVars false
namespace Go.Fx
open Go.Proofs Gr
set_option maxRecDepth 100000

def befB (a b : Int × Int) : Bool := decide (a.1 < b.1 ∨ a.1 = b.1 ∧ a.2 < b.2)
theorem befB_iff (a b : Int × Int) : befB a b = true ↔ ecmp a b < 0 := by
  unfold befB
  rw [decide_eq_true_iff, ecmp_lt]
  exact Iff.rfl

theorem ct102 (a b : Int × Int) : Ct Try.prog 102 [eA a, eA b] (.c (.bool (befB a b))) := by
  refine ct_of tyAll Try.func102 (by decide) rfl ?_
  conv => whnf
  refine ⟨by omega, by omega, ?_⟩
  conv => whnf
  refine ⟨by omega, by omega, ?_⟩
  conv => whnf
  refine acond_split (fun h1 => ?_) (fun h1 => ?_)
  · have h1 := dec h1
    conv => whnf
    refine ⟨?_, trivial⟩
    show CVal.bool _ = CVal.bool _
    congr 1
    exact (decide_eq_true (.inl h1))
  · have h1 := ndec h1
    conv => whnf
    refine ⟨by omega, by omega, ?_⟩
    conv => whnf
    refine ⟨by omega, by omega, ?_⟩
    conv => whnf
    refine acond_split (fun h2 => ?_) (fun h2 => ?_)
    · have h2 := dec h2
      conv => whnf
      refine ⟨by omega, by omega, ?_⟩
      conv => whnf
      refine ⟨by omega, by omega, ?_⟩
      conv => whnf
      refine ⟨?_, trivial⟩
      show CVal.bool _ = CVal.bool _
      congr 1
      exact decide_eq_decide.2 ⟨fun h => h.elim (fun h => absurd h h1) fun h => h.2, fun h => .inr ⟨h2, h⟩⟩
    · have h2 := ndec h2
      conv => whnf
      refine ⟨?_, trivial⟩
      show CVal.bool _ = CVal.bool _
      congr 1
      exact decide_eq_false fun h => h.elim h1 fun h => h2 h.1

theorem ct67 (n : Int) (es : Es) : Ct Try.prog 67 [rA n es] (.c (i64 (checkG n es))) := by
  refine ct_of tyAll Try.func67 (by decide) rfl ?_
  conv => whnf
  have ret2 : n < 0 ∨ 64 < n → checkG n es = 2 := fun h => by rw [checkG, if_pos h]
  refine acond_split (fun h1 => ?_) (fun h1 => ?_)
  · have h1 := dec h1
    conv => whnf
    refine ⟨?_, trivial⟩
    exact congrArg i64 (ret2 (.inl h1))
  have h1 := ndec h1
  conv => whnf
  refine acond_split (fun h2 => ?_) (fun h2 => ?_)
  · have h2 := dec h2
    conv => whnf
    refine ⟨?_, trivial⟩
    exact congrArg i64 (ret2 (.inr h2))
  have h2 := ndec h2
  conv => whnf
  have hn : ¬ (n < 0 ∨ 64 < n) := by omega
  intro hlen
  conv => whnf
  have hnn : 0 ≤ n * n ∧ n * n ≤ 4096 := by
    have h3 : n ≤ 64 := by omega
    have h4 : 0 ≤ n := by omega
    exact ⟨Int.mul_nonneg h4 h4, by have := Int.mul_le_mul h3 h3 h4 (by omega); omega⟩
  refine ⟨_, wi _ (by omega) (by omega), ?_⟩
  conv => whnf
  refine acond_split (fun h3 => ?_) (fun h3 => ?_)
  · have h3 := dec h3
    conv => whnf
    refine ⟨?_, trivial⟩
    refine congrArg i64 ?_
    rw [checkG, if_neg hn, if_pos h3]
  have h3 := ndec h3
  conv => whnf
  refine ⟨_, ct74 n es, ?_⟩
  conv => whnf
  refine acond_split (fun h4 => ?_) (fun h4 => ?_)
  · have h4 : insideB n es = false := Eq.mp (Bool.not_eq_true' _) h4
    conv => whnf
    refine ⟨?_, trivial⟩
    refine congrArg i64 ?_
    rw [checkG, if_neg hn, if_neg h3, if_pos (by rw [any_bad, h4]; rfl)]
  have h4 : insideB n es = true := Eq.mp (Bool.not_eq_false' _) h4
  have h4' : ¬ es.any (badE n) = true := by rw [any_bad, h4]; simp
  conv => whnf
  refine ⟨Nat, fun k => 1 ≤ k ∧ (k ≤ es.length ∨ k = 1) ∧ ∀ j, (h : j + 1 < es.length) → j + 1 < k → ecmp (es[j]'(by omega)) es[j+1] < 0, fun k => ⟨(sk 1 (.p (.one (.lptr 1 0)) :: (sk 1 (I k :: (sk 43 []))))), [(1, [.c (i64 n), .c (prs es)])], []⟩, fun k => es.length - k, 1, ⟨by omega, .inr rfl, fun j h h' => by omega⟩, ?_, fun k hk' => ?_⟩
  · repeat' (first | exact trivial | exact rfl | refine And.intro ?_ ?_)
  obtain ⟨hk1, hk2, hs⟩ := hk'
  conv => whnf
  intro _
  conv => whnf
  refine acond_split (fun h5 => ?_) (fun h5 => ?_)
  · have h5 := dec h5
    conv => whnf
    have hlt : k < es.length := by omega
    obtain ⟨j, rfl⟩ : ∃ j, k = j + 1 := ⟨k - 1, by omega⟩
    refine draw_intro tyAll mixed 13 (by kernel_rfl) ?_
    conv => whnf
    refine ⟨j, by rw [wi _ (by omega) (by omega)]; omega, ?_⟩
    conv => whnf
    refine ⟨es[j], by omega, List.getElem?_eq_getElem (by omega), ?_⟩
    conv => whnf
    refine ⟨es[j + 1], by omega, List.getElem?_eq_getElem hlt, ?_⟩
    conv => whnf
    refine ⟨_, ct102 es[j] es[j + 1], ?_⟩
    conv => whnf
    refine acond_split (fun h6 => ?_) (fun h6 => ?_)
    · have h6 : befB es[j] es[j + 1] = false := Eq.mp (Bool.not_eq_true' _) h6
      conv => whnf
      refine ⟨?_, trivial⟩
      refine congrArg i64 ?_
      rw [checkG, if_neg hn, if_neg h3, if_neg h4', if_neg]
      intro hc
      have := (befB_iff _ _).2 (sortedB_iff.1 hc j hlt)
      rw [h6] at this
      cases this
    · have h6 : befB es[j] es[j + 1] = true := Eq.mp (Bool.not_eq_false' _) h6
      conv => whnf
      refine ⟨_, wi _ (by omega) (by omega), ?_⟩
      conv => whnf
      refine ⟨j + 1 + 1, ⟨by omega, .inl (by omega), fun i h h' => ?_⟩, by show es.length - (j + 1 + 1) < es.length - (j + 1); omega, ?_⟩
      · by_cases e : i = j
        · subst e
          exact (befB_iff _ _).1 h6
        · exact hs i h (by omega)
      · repeat' (first | exact trivial | exact rfl | refine And.intro ?_ ?_)
  · have h5 := ndec h5
    conv => whnf
    refine ⟨?_, trivial⟩
    refine congrArg i64 ?_
    rw [checkG, if_neg hn, if_neg h3, if_neg h4', if_pos]
    exact sortedB_iff.2 fun j h => hs j h (by omega)

theorem ct26 (n : Int) (es : Es) (hb : es.length * 16 ≤ 140737488355328) : Ct Try.prog 26 [gA n es] (.p (.agg [.c (i64 n), .row 0 (pairsR es)])) := by
  refine ct_of tyAll Try.func26 (by decide) rfl ?_
  conv => whnf
  refine draw_intro tyAll mixed 6 (by kernel_rfl) ?_
  conv => whnf
  refine ⟨_, ct19 es hb, ?_⟩
  conv => whnf
  repeat' (first | exact trivial | exact rfl | refine And.intro ?_ ?_)

theorem ct24 (n : Int) (es : Es) (hb : es.length * 16 ≤ 140737488355328) : Ct Try.prog 24 [gA n es] (.p (.agg [.c (i64 n), .row 0 (edgesR es)])) := by
  refine ct_of tyAll Try.func24 (by decide) rfl ?_
  conv => whnf
  refine draw_intro tyAll mixed 6 (by kernel_rfl) ?_
  conv => whnf
  refine ⟨_, ct17 es hb, ?_⟩
  conv => whnf
  repeat' (first | exact trivial | exact rfl | refine And.intro ?_ ?_)

def fewB (n : Int) (es : Es) : Bool := decide (es.length ≤ 24 ∧ (n ≤ 8 ∨ 64 < n))
def fineB (n : Int) (es : Es) : Bool := fewB n es && decide (checkG n es = 0)
theorem ct22 (n : Int) (es : Es) : Ct Try.prog 22 [gA n es] (.c (.bool (fineB n es))) := by
  refine ct_of tyAll Try.func22 (by decide) rfl ?_
  conv => whnf
  refine ⟨_, ct15 n es, ?_⟩
  conv => whnf
  refine acond_split (fun h1 => ?_) (fun h1 => ?_)
  · have h1' := of_decide_eq_true h1
    conv => whnf
    refine ⟨_, ct26 n es (by omega), ?_⟩
    conv => whnf
    refine .inl ?_
    conv => whnf
    refine ⟨_, ct67 n es, .inl (flat_int _ _), ?_⟩
    conv => whnf
    refine ⟨?_, trivial⟩
    show CVal.bool _ = CVal.bool _
    congr 1
    show (fewB n es && _) = _
    unfold fewB
    rw [h1]
    rfl
  · conv => whnf
    refine ⟨?_, trivial⟩
    show CVal.bool _ = CVal.bool _
    congr 1
    show (fewB n es && _) = false
    unfold fewB
    rw [h1]
    rfl
end Go.Fx

namespace Go.Fx
open Go.Proofs Gr
set_option maxRecDepth 100000

abbrev u8 (n : Int) : CVal := .int .u8 n

theorem fine_ok {n : Int} {es : Es} (h : fineB n es = true) : ∃ N : Nat, n = N ∧ N ≤ 8 ∧ inR N es ∧ SortedL es ∧ es.length ≤ 24 ∧ checkG N es = 0 := by
  unfold fineB fewB at h
  simp only [Bool.and_eq_true, decide_eq_true_eq] at h
  obtain ⟨⟨h1, h2⟩, h3⟩ := h
  obtain ⟨N, rfl, hN, hes, _, hs⟩ := check_ok h3
  exact ⟨N, rfl, by omega, hes, sortedB_pairwise hs, h1, h3⟩
theorem single_in1 {n : Int} {es : Es} {a : Int} (hc : checkG n es = 0) (ha : 0 ≤ a ∧ a < n) : readyE n es [a] = 0 := by
  unfold readyE
  rw [if_neg (by simp [hc]), nodesE, if_neg, ascB, if_pos rfl]
  simp [beyondB]; omega
theorem single_ok1 {n : Int} {es : Es} {a : Int} (hc : checkG n es = 0) (ha : 0 ≤ a ∧ a < n) : singleE n es [a] = 0 := by
  rw [single_one]; exact single_in1 hc ha
theorem single_ok2 {n : Int} {es : Es} {a b : Int} (hc : checkG n es = 0) (ha : 0 ≤ a ∧ a < n) (hb : 0 ≤ b ∧ b < n) : singleE n es [a, b] = 0 := by
  unfold singleE
  rw [List.map_cons, List.map_cons, List.map_nil, fstNZ, if_pos (single_in1 hc ha), fstNZ, if_pos (single_in1 hc hb), fstNZ]
theorem tmod_in {a : Int} {N : Nat} (ha : 0 ≤ a) (hN : N ≠ 0) : 0 ≤ a.tmod N ∧ a.tmod N < N :=
  ⟨Int.tmod_nonneg _ ha, Int.tmod_lt_of_pos a (show (0 : Int) < (N : Int) by omega)⟩

theorem ct29_nil : Ct Try.prog 29 [.one .nil, .one .nil] (.c (.bool true)) := by
  refine ct_weak (args' := [.one (ints []), .one (ints [])]) (ct29 [] []) fun w X vs h => ?_
  match vs, h with
  | [a, b], ⟨h1, h2, _⟩ => exact ⟨nil_sl h1, nil_sl h2, trivial⟩

theorem pathO_self {n : Nat} {es : Es} (hes : inR n es) {a : Int} (ha : 0 ≤ a ∧ a < n) : pathO n es a a = [a] := by
  unfold pathO
  rw [if_neg (by rw [dist_self hes ha]; omega)]
  unfold pathL
  rw [dist_self hes ha]
  rfl
end Go.Fx

namespace Go.Proofs.Ytoajmkplaognnaa
set_option maxRecDepth 100000
open Go.ChangeShapes Go.WideShapes Go.ChangeAt Go.RowKit Go.Fx Go.Fx.Gr Go.Deep

theorem cells26 : Try.prog.cellsOf 26 = 2 := by kernel_rfl

/-- A graph that came in reads as a number and edges. -/
theorem graph_of_trod {H : Type} {enc : TypeId × Value → H} {W : World} {b0 base : Nat} {sp : Nat → Bool} {hd : Bool} {v : Value} {d : DataW H} {p : List MemPlace} (hv : Value.okWide Try.prog W .any b0 26 v) (h : DataW.Trod enc Try.prog W base sp hd 26 v d p) :
    ∃ (n : Int) (es : Es), ARep W (fun _ => False) (gA n es) v := by
  obtain ⟨v0, v1, y0, y1, m, rfl, _, _, h0, h1⟩ := Go.Joins.open_agg2 Try.underlying26 (by kernel_rfl) cells26 hv h
  obtain ⟨n, rfl⟩ := int_of_trod h0
  obtain ⟨es, hes⟩ := edges_of_cells h1
  exact ⟨n, es, [.int .i64 n, v1], rfl, rfl, hes, trivial⟩

/-- A byte that came in. -/
theorem u8_bounds {n : Int} (h : (Lit.int .u8 n).wf = true) : 0 ≤ n ∧ n ≤ 255 := by
  simp only [Lit.wf, Bool.and_eq_true, decide_eq_true_eq] at h
  have e1 : IntKind.u8.min = 0 := by decide
  have e2 : IntKind.u8.max = 255 := by decide
  omega
end Go.Proofs.Ytoajmkplaognnaa
