/- The reference's Parts. GraphComponents: the walk. -/
import Derived.Test.YtoajmkplaognnaaK34
import Derived.Test.YtoajmkplaognnaaK25
import Derived.Test.YtoajmkplaognnaaK17
set_option linter.unusedVariables false
set_option linter.unusedSimpArgs false
set_option linter.unusedSectionVars false
namespace Go.Fx
open Go.Proofs Gr
set_option maxRecDepth 100000

set_option maxHeartbeats 1000000 in
theorem ct52 (n : Nat) (hn : n ≤ 64) (es : Es) (hes : inR n es) (hs : SortedL es) (hl : es.length ≤ 1000000) : Ct Try.prog 52 [rA n es] (.row (tableR (partsL n es))) := by
  refine ct_of tyAll Try.func52 (by decide) rfl ?_
  have h56 := ct56 n hn es hes hl
  rw [revL_mk hes hs] at h56
  have h56 := ct_readA h56
  have hrl := revL_length es
  have h18 := ct18 n (es ++ revL es)
  have hin : insideB n (es ++ revL es) = true := (insideB_iff _ _).2 (both_in hes)
  rw [rmakeRv, if_neg (by unfold makeBad; rw [decide_eq_true_iff, hin]; simp; omega), Int.toNat_natCast] at h18
  have hbl : (bothL n es).length ≤ n * n := mkL_length n _
  have hNN : n * n ≤ 64 * 64 := Nat.mul_le_mul hn hn
  have h50 := ct50 n hn (bothL n es) (mkL_in n _) (by omega)
  have h18 : Ct Try.prog 18 [.one (i64 n), .one (prs (es ++ revL es))] (.tup [.agg [.c (i64 n), .row 0 (pairsR (bothL n es))], .one (.c (i64 0))]) := h18
  have h50 : Ct Try.prog 50 [rA n (bothL n es)] (.row (tableR (partsL n es))) := h50
  obtain ⟨b, hb⟩ : ∃ b, b = bothL n es := ⟨_, rfl⟩
  obtain ⟨p, hp⟩ : ∃ p, p = partsL n es := ⟨_, rfl⟩
  obtain ⟨rv, hrv⟩ : ∃ rv, rv = revL es := ⟨_, rfl⟩
  rw [← hp] at h50 ⊢
  rw [← hb] at h18 h50
  rw [← hrv] at h56 h18 hrl
  clear hb hp hrv hbl
  conv => whnf
  refine draw_introB tyAll mixed 15 [8] [2, 5, 9] [10] (by kernel_rfl) ?_
  conv => whnf
  refine ⟨_, _, bsem_lit tyAll (Int × Int) eC rfl rfl rfl (by decide) rfl rfl, ?_⟩
  conv => whnf
  refine ⟨_, _, bsem_append tyAll (ys := es) rfl rfl (by decide) rfl rfl rfl rfl rfl rfl (by simp; omega) (by simp; omega), ?_⟩
  conv => whnf
  refine ⟨_, h56, ?_⟩
  conv => whnf
  refine ⟨_, _, bsem_append tyAll (ys := rv) rfl rfl (by decide) rfl rfl rfl rfl rfl rfl (by simp; omega) (by simp; omega), ?_⟩
  conv => whnf
  refine ⟨_, h18, .inl (flat_rmk _ _), ?_⟩
  conv => whnf
  refine .inr (.inl ?_)
  conv => whnf
  refine ⟨_, h50, ?_⟩
  conv => whnf
  repeat' (first | exact trivial | exact rfl | refine And.intro ?_ ?_)
end Go.Fx

namespace Go.Fx
open Go.Proofs Gr
set_option maxRecDepth 100000

set_option maxHeartbeats 4000000 in
theorem ct7 (n : Int) (es : Es) : Ct Try.prog 7 [gA n es] (.c (.bool true)) := by
  refine ct_of tyAll Try.func7 (by decide) rfl ?_
  conv => whnf
  refine ⟨_, ct14, ?_⟩
  conv => whnf
  refine ⟨_, ct22 n es, ?_⟩
  conv => whnf
  refine acond_split (fun h1 => ?_) (fun h1 => ?_)
  · have h1 : fineB n es = false := Eq.mp (Bool.not_eq_true' _) h1
    conv => whnf
    refine ⟨_, ct14, ?_⟩
    conv => whnf
    repeat' (first | exact trivial | exact rfl | refine And.intro ?_ ?_)
  have h1 : fineB n es = true := Eq.mp (Bool.not_eq_false' _) h1
  obtain ⟨N, rfl, hN, hes, hs, hl, hc⟩ := fine_ok h1
  have h45 := ct45 N es
  rw [compRv, if_pos hc, Int.toNat_natCast] at h45
  have h46 := ct46 N es
  rw [condRv, if_pos hc, Int.toNat_natCast] at h46
  have h39 := ct39 N es
  rw [sinksRv, if_pos hc, Int.toNat_natCast] at h39
  have h47 := ct47 N es
  rw [partsRv, if_pos hc, Int.toNat_natCast] at h47
  have h48 := ct48 N (by omega) es hes (by omega)
  have h50 := ct50 N (by omega) es hes (by omega)
  have h51 := ct51 N (by omega) es hes (by omega)
  have h52 := ct52 N (by omega) es hes hs (by omega)
  have hcl : (condL N es).length ≤ 64 := by
    have h1 := mkL_length (compL N es).length (condE N es)
    have h2 := compL_length N es
    have h3 : (compL N es).length * (compL N es).length ≤ 8 * 8 := Nat.mul_le_mul (by omega) (by omega)
    unfold condL; omega
  obtain ⟨C, hC⟩ : ∃ C, C = compL N es := ⟨_, rfl⟩
  obtain ⟨cd, hcd⟩ : ∃ cd, cd = condL N es := ⟨_, rfl⟩
  obtain ⟨ol, hol⟩ : ∃ ol, ol = ofL N es := ⟨_, rfl⟩
  obtain ⟨sk, hsk⟩ : ∃ sk, sk = sinksL N es := ⟨_, rfl⟩
  obtain ⟨pt, hpt⟩ : ∃ pt, pt = partsL N es := ⟨_, rfl⟩
  rw [← hC] at h45 h46 h48 h50
  rw [← hcd] at h46 h48 hcl
  rw [← hol] at h46 h48
  rw [← hsk] at h39 h51
  rw [← hpt] at h47 h52
  clear hC hcd hol hsk hpt
  conv => whnf
  refine ⟨_, ct26 N es (by omega), ?_⟩
  conv => whnf
  refine ⟨_, ct24 N es (by omega), ?_⟩
  conv => whnf
  refine .inr (.inl ?_)
  conv => whnf
  refine ⟨_, h45, ?_⟩
  conv => whnf
  refine ⟨_, ct24 N es (by omega), ?_⟩
  conv => whnf
  refine .inr (.inl ?_)
  conv => whnf
  refine ⟨_, h46, ?_⟩
  conv => whnf
  refine ⟨_, ct24 N es (by omega), ?_⟩
  conv => whnf
  refine .inr (.inl ?_)
  conv => whnf
  refine ⟨_, h39, ?_⟩
  conv => whnf
  refine ⟨_, ct24 N es (by omega), ?_⟩
  conv => whnf
  refine .inr (.inl ?_)
  conv => whnf
  refine ⟨_, h47, ?_⟩
  conv => whnf
  refine .inr (.inl ?_)
  conv => whnf
  refine ⟨_, h48, ?_⟩
  conv => whnf
  refine ⟨_, h50, ?_⟩
  conv => whnf
  refine .inl ?_
  conv => whnf
  refine ⟨_, ct49 C C, .inl (flat_bool _), ?_⟩
  conv => whnf
  rw [show decide (C = C) = true from decide_eq_true rfl]
  conv => whnf
  refine .inl ?_
  conv => whnf
  refine ⟨_, ct20 C.length C.length cd cd (by omega), .inl (flat_bool _), ?_⟩
  conv => whnf
  rw [show decide ((C.length : Int) = C.length ∧ cd = cd) = true from decide_eq_true ⟨rfl, rfl⟩]
  conv => whnf
  refine .inl ?_
  conv => whnf
  refine ⟨_, ct29 ol ol, .inl (flat_bool _), ?_⟩
  conv => whnf
  rw [show decide (ol = ol) = true from decide_eq_true rfl]
  conv => whnf
  refine ⟨_, h51, ?_⟩
  conv => whnf
  refine .inl ?_
  conv => whnf
  refine ⟨_, ct49 sk sk, .inl (flat_bool _), ?_⟩
  conv => whnf
  rw [show decide (sk = sk) = true from decide_eq_true rfl]
  conv => whnf
  refine ⟨_, h52, ?_⟩
  conv => whnf
  refine .inl ?_
  conv => whnf
  refine ⟨_, ct49 pt pt, .inl (flat_bool _), ?_⟩
  conv => whnf
  rw [show decide (pt = pt) = true from decide_eq_true rfl]
  conv => whnf
  repeat' (first | exact trivial | exact rfl | refine And.intro ?_ ?_)
end Go.Fx
