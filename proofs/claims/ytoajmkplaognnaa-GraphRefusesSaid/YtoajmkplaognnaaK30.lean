/- GraphChecks: the walk. -/
import Derived.Test.YtoajmkplaognnaaK25
import Derived.Test.YtoajmkplaognnaaK19
import Derived.Test.YtoajmkplaognnaaK17
set_option linter.unusedVariables false
set_option linter.unusedSimpArgs false
set_option linter.unusedSectionVars false
namespace Go.Fx
open Go.Proofs Gr
set_option maxRecDepth 100000

theorem ct54_nil (n : Int) (es : Es) (h : checkG n es ≠ 0) : Ct Try.prog 54 [gA n es, .one .nil] (.tup [.agg [.c (i64 0), .c .nil], .one (.c (i64 (checkG n es)))]) := by
  have h54 := ct54 n es [] (by simp)
  have hr : readyE n es [] = checkG n es := by unfold readyE; rw [if_pos h]
  rw [hr, if_neg h] at h54
  refine ct_weak h54 fun w X vs h => ?_
  match vs, h with
  | [a, b], ⟨h1, h2, _⟩ => exact ⟨h1, nil_sl h2, trivial⟩

set_option maxHeartbeats 2000000 in
theorem ct13 (n : Int) (es : Es) : Ct Try.prog 13 [gA n es] (.c (.bool true)) := by
  refine ct_of tyAll Try.func13 (by decide) rfl ?_
  conv => whnf
  refine ⟨_, ct14, ?_⟩
  conv => whnf
  refine ⟨_, ct15 n es, ?_⟩
  conv => whnf
  refine acond_split (fun h1 => ?_) (fun h1 => ?_)
  · have h1 : fewB n es = false := Eq.mp (Bool.not_eq_true' _) h1
    conv => whnf
    refine ⟨_, ct14, ?_⟩
    conv => whnf
    repeat' (first | exact trivial | exact rfl | refine And.intro ?_ ?_)
  have h1 : fewB n es = true := Eq.mp (Bool.not_eq_false' _) h1
  have hl : es.length ≤ 24 := by unfold fewB at h1; simp only [Bool.and_eq_true, decide_eq_true_eq] at h1; exact h1.1
  have h67 := ct67 n es
  have h21 := ct21 n es
  conv => whnf
  refine ⟨_, ct26 n es (by omega), ?_⟩
  conv => whnf
  refine .inl ?_
  conv => whnf
  refine ⟨_, h67, .inl (flat_int _ _), ?_⟩
  conv => whnf
  refine ⟨_, ct24 n es (by omega), ?_⟩
  conv => whnf
  refine .inl ?_
  conv => whnf
  refine ⟨_, h21, .inl (flat_int _ _), ?_⟩
  conv => whnf
  rw [show decide (checkG n es ≠ checkG n es) = false from decide_eq_false (fun h => h rfl)]
  conv => whnf
  refine acond_split (fun h2 => ?_) (fun h2 => ?_)
  · have h2 := dec h2
    conv => whnf
    repeat' (first | exact trivial | exact rfl | refine And.intro ?_ ?_)
  have h2 := ndec h2
  conv => whnf
  have h2 : checkG n es ≠ 0 := h2
  have h53 := ct53 n es
  rw [if_neg h2] at h53
  have h54 := ct54_nil n es h2
  have h62 := ct62 n es
  rw [closRv, if_neg h2] at h62
  have h45 := ct45 n es
  rw [compRv, if_neg h2] at h45
  have h46 := ct46 n es
  rw [condRv, if_neg h2] at h46
  have h32 := ct32 n es
  rw [ordRv, if_neg h2] at h32
  have h33 := ct33 n es
  rw [cycRv, if_neg h2] at h33
  obtain ⟨c, hc⟩ : ∃ c, c = checkG n es := ⟨_, rfl⟩
  rw [← hc] at h53 h54 h62 h45 h46 h32 h33
  rw [← hc]
  clear hc
  refine ⟨_, h53, ?_⟩
  conv => whnf
  refine ⟨_, h54, ?_⟩
  conv => whnf
  refine ⟨_, h62, ?_⟩
  conv => whnf
  refine ⟨_, h45, ?_⟩
  conv => whnf
  refine ⟨_, h46, ?_⟩
  conv => whnf
  refine ⟨_, h32, ?_⟩
  conv => whnf
  refine ⟨_, h33, ?_⟩
  conv => whnf
  refine ⟨_, ct20_nil 0 0, ?_⟩
  conv => whnf
  refine ⟨_, ct20_nil 0 0, ?_⟩
  conv => whnf
  refine ⟨_, ct20_nil 0 0, ?_⟩
  conv => whnf
  refine ⟨_, wi _ (by omega) (by omega), ?_⟩
  conv => whnf
  refine ⟨_, wi _ (by omega) (by omega), ?_⟩
  conv => whnf
  refine ⟨_, wi _ (by omega) (by omega), ?_⟩
  conv => whnf
  refine ⟨_, wi _ (by omega) (by omega), ?_⟩
  conv => whnf
  have hcc : decide (c = c) = true := decide_eq_true rfl
  rw [hcc]
  conv => whnf
  rw [hcc]
  conv => whnf
  rw [hcc]
  conv => whnf
  rw [hcc]
  conv => whnf
  rw [hcc]
  conv => whnf
  rw [hcc]
  conv => whnf
  refine ⟨?_, trivial⟩
  show CVal.bool _ = CVal.bool _
  congr 1
  exact hcc.symm
end Go.Fx
