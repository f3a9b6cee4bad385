/- Plain: the reversed graph's components and parts. GraphMirrors: the walk. -/
import Derived.Test.YtoajmkplaognnaaK25
import Derived.Test.YtoajmkplaognnaaK17
set_option linter.unusedVariables false
set_option linter.unusedSimpArgs false
set_option linter.unusedSectionVars false
namespace Go.Fx.Gr
open Go.Fx Go.Proofs

theorem within_flip {es es' : Es} (h : ∀ a b, (a, b) ∈ es → (b, a) ∈ es') : ∀ {k : Nat} {a b : Int}, within es k a b = true → within es' k b a = true := by
  intro k
  induction k with
  | zero => intro a b hw; have : a = b := by simpa [within] using hw
            subst this; exact within_refl es' 0 a
  | succ k ih =>
    intro a b hw
    rcases within_left hw with hw2 | ⟨e, he, h1, hw2⟩
    · exact within_le (Nat.le_succ k) (ih hw2)
    · rw [← h1]
      exact within_step (e := (e.2, e.1)) (h e.1 e.2 he) (ih hw2)
theorem within_rev (es : Es) (k : Nat) (a b : Int) : within (revL es) k a b = within es k b a := by
  rw [Bool.eq_iff_iff]
  exact ⟨within_flip fun a b h => (revL_mem es a b).1 h, within_flip fun a b h => (revL_mem es b a).2 h⟩
theorem both_rev (n : Nat) (es : Es) (a b : Nat) : both n (revL es) a b = both n es a b := by
  unfold both
  rw [within_rev, within_rev, Bool.and_comm]
theorem compL_congr {n : Nat} {es es' : Es} (h : ∀ a b, both n es a b = both n es' a b) : compL n es = compL n es' := by
  have h1 : both n es = both n es' := by funext a b; exact h a b
  have h2 : isRep n es = isRep n es' := by funext k; unfold isRep; rw [h1]
  have h3 : cls n es = cls n es' := by funext a; unfold cls; rw [h1]
  unfold compL reps
  rw [h2, h3]
theorem compL_rev (n : Nat) (es : Es) : compL n (revL es) = compL n es := compL_congr fun a b => both_rev n es a b
theorem rev_in {n : Nat} {es : Es} (hes : inR n es) : inR n (revL es) := fun e he => both_in hes e (List.mem_append.2 (.inr he))
theorem partsL_rev {n : Nat} {es : Es} (hes : inR n es) : partsL n (revL es) = partsL n es := by
  unfold partsL
  have : bothL n (revL es) = bothL n es := by
    unfold bothL
    refine strict_ext lt2_irrefl lt2_asymm (mkL_sorted n _) (mkL_sorted n _) fun x => ?_
    rw [mkL_mem n _ (both_in (rev_in hes)), mkL_mem n _ (both_in hes), List.mem_append, List.mem_append]
    obtain ⟨a, b⟩ := x
    rw [revL_mem (revL es), revL_mem es b a]
    exact Or.comm
  rw [this]
theorem check_rev {n : Nat} (hn : n ≤ 64) {es : Es} (hes : inR n es) (hs : SortedL es) : checkG n (revL es) = 0 := by
  refine check_of hn (rev_in hes) (revL_sorted hs) ?_
  rw [revL_length, ← mkL_fix hes hs]
  exact mkL_length n es
theorem clos_get {n : Nat} {es : Es} {v : Nat} (h : v < n) : (closI n es)[v]? = some (reachI n es [(v : Int)]) := by
  simp [closI, h]
theorem clos_contains {n : Nat} {es : Es} {v u : Nat} (hu : u < n) : decide ((u : Int) ∈ reachI n es [(v : Int)]) = within es n (v : Int) (u : Int) := by
  rw [Bool.eq_iff_iff, decide_eq_true_eq, reachI_mem]
  constructor
  · rintro ⟨_, a, ha, h⟩
    have : a = v := by simpa using ha
    rw [← this]; exact h
  · intro h
    exact ⟨by omega, (v : Int), by simp, h⟩
end Go.Fx.Gr

namespace Go.Fx
open Go.Proofs Gr
set_option maxRecDepth 100000

set_option maxHeartbeats 2000000 in
theorem ct11 (n : Int) (es : Es) : Ct Try.prog 11 [gA n es] (.c (.bool true)) := by
  refine ct_of tyAll Try.func11 (by decide) rfl ?_
  conv => whnf
  refine ⟨_, ct14, ?_⟩
  conv => whnf
  refine ⟨_, ct22 n es, ?_⟩
  conv => whnf
  refine acond_split (fun h1 => ?_) (fun h1 => ?_)
  · have h1 : fineB n es = false := Eq.mp (Bool.not_eq_true' _) h1
    conv => whnf
    refine ⟨_, ct14, ?_⟩
    conv => whnf
    repeat' (first | exact trivial | exact rfl | refine And.intro ?_ ?_)
  have h1 : fineB n es = true := Eq.mp (Bool.not_eq_false' _) h1
  obtain ⟨N, rfl, hN, hes, hs, hl, hc⟩ := fine_ok h1
  have hc2 := check_rev (by omega) hes hs
  have h53 := ct53 N es
  rw [if_pos hc] at h53
  have h62 := ct62 N es
  rw [closRv, if_pos hc, Int.toNat_natCast] at h62
  have h62b := ct62 N (revL es)
  rw [closRv, if_pos hc2, Int.toNat_natCast] at h62b
  have h45 := ct45 N es
  rw [compRv, if_pos hc, Int.toNat_natCast] at h45
  have h45b := ct45 N (revL es)
  rw [compRv, if_pos hc2, Int.toNat_natCast, compL_rev] at h45b
  have h47 := ct47 N es
  rw [partsRv, if_pos hc, Int.toNat_natCast] at h47
  have h47b := ct47 N (revL es)
  rw [partsRv, if_pos hc2, Int.toNat_natCast, partsL_rev hes] at h47b
  have hga : ∀ v : Nat, v < N → (closI N es)[v]? = some (reachI N es [(v : Int)]) := fun v hv => clos_get hv
  have hgb : ∀ v : Nat, v < N → (closI N (revL es))[v]? = some (reachI N (revL es) [(v : Int)]) := fun v hv => clos_get hv
  have hsame : ∀ v u : Nat, v < N → u < N → decide ((u : Int) ∈ reachI N es [(v : Int)]) = decide ((v : Int) ∈ reachI N (revL es) [(u : Int)]) := fun v u hv hu => by
    rw [clos_contains hu, clos_contains hv, within_rev]
  have hla : (closI N es).length = N := by simp [closI]
  have hlb : (closI N (revL es)).length = N := by simp [closI]
  obtain ⟨A, hA⟩ : ∃ A, A = closI N es := ⟨_, rfl⟩
  obtain ⟨B, hB⟩ : ∃ B, B = closI N (revL es) := ⟨_, rfl⟩
  obtain ⟨ra, hra⟩ : ∃ ra : Nat → List Int, ra = fun (v : Nat) => reachI N es [(v : Int)] := ⟨_, rfl⟩
  obtain ⟨rb, hrb⟩ : ∃ rb : Nat → List Int, rb = fun (v : Nat) => reachI N (revL es) [(v : Int)] := ⟨_, rfl⟩
  have era : ∀ v : Nat, reachI N es [(v : Int)] = ra v := fun v => by rw [hra]
  have erb : ∀ v : Nat, reachI N (revL es) [(v : Int)] = rb v := fun v => by rw [hrb]
  simp only [era, erb] at hga hgb hsame
  rw [← hA] at h62 hga hla
  rw [← hB] at h62b hgb hlb
  obtain ⟨rv, hrv⟩ : ∃ rv, rv = revL es := ⟨_, rfl⟩
  obtain ⟨C, hC⟩ : ∃ C, C = compL N es := ⟨_, rfl⟩
  obtain ⟨D, hD⟩ : ∃ D, D = partsL N es := ⟨_, rfl⟩
  rw [← hrv] at h53 h62b h45b h47b
  rw [← hC] at h45 h45b
  rw [← hD] at h47 h47b
  clear hA hB hra hrb era erb hrv hC hD
  conv => whnf
  refine ⟨_, h53, ?_⟩
  conv => whnf
  refine ⟨_, h62, ?_⟩
  conv => whnf
  refine .inr (.inl ?_)
  conv => whnf
  refine ⟨_, h62b, ?_⟩
  conv => whnf
  intro _
  conv => whnf
  refine acond_split (fun h2 => ?_) (fun h2 => ?_)
  · exfalso
    have h2 : (A.length : Int) ≠ N := of_decide_eq_true h2
    omega
  conv => whnf
  intro _
  conv => whnf
  refine acond_split (fun h3 => ?_) (fun h3 => ?_)
  · exfalso
    have h3 : (B.length : Int) ≠ N := of_decide_eq_true h3
    omega
  conv => whnf
  refine ⟨Nat, fun v => v ≤ N, fun v => ⟨(sk 1 (.p (.one (.lptr 1 0)) :: (sk 1 (.p (.one (.lptr 3 0)) :: (sk 1 (W 34 0 :: (sk 1 (W 39 0 :: (sk 59 (I N :: (sk 0 (I v :: (sk 66 []))))))))))))), [(1, [.c (i64 N), .c (edges es)]), (3, [.c (i64 N), .c (edges rv)])],
    [(34, (0, tableR A)), (39, (0, tableR B))]⟩, fun v => N - v, 0, by omega, ?_, fun v hv => ?_⟩
  · repeat' (first | exact trivial | exact rfl | refine And.intro ?_ ?_)
  have hv : v ≤ N := hv
  conv => whnf
  refine acond_split (fun h4 => ?_) (fun h4 => ?_)
  · have h4 := dec h4
    conv => whnf
    have hvl : v < N := by omega
    refine ⟨Nat, fun u => u ≤ N, fun u => ⟨(sk 1 (.p (.one (.lptr 1 0)) :: (sk 1 (.p (.one (.lptr 3 0)) :: (sk 1 (W 34 0 :: (sk 1 (W 39 0 :: (sk 1 (I v :: (sk 57 (I N :: (sk 0 (I v :: (sk 3 (I N :: (sk 0 (I u :: (sk 61 []))))))))))))))))))), [(1, [.c (i64 N), .c (edges es)]), (3, [.c (i64 N), .c (edges rv)])],
      [(34, (0, tableR A)), (39, (0, tableR B))]⟩, fun u => N - u, 0, by omega, ?_, fun u hu => ?_⟩
    · repeat' (first | exact trivial | exact rfl | refine And.intro ?_ ?_)
    have hu : u ≤ N := hu
    conv => whnf
    refine acond_split (fun h5 => ?_) (fun h5 => ?_)
    · have h5 := dec h5
      conv => whnf
      have hul : u < N := by omega
      have hsm := hsame v u hvl hul
      refine draw_intro tyAll mixed 13 (by kernel_rfl) ?_
      conv => whnf
      refine ⟨by omega, by show (v : Int) < (A.length : Int); omega, ?_⟩
      conv => whnf
      refine ⟨_, hga v hvl, ?_⟩
      conv => whnf
      refine ⟨_, ct44 (ra v) (u : Int), ?_⟩
      conv => whnf
      refine ⟨by omega, by show (u : Int) < (B.length : Int); omega, ?_⟩
      conv => whnf
      refine ⟨_, hgb u hul, ?_⟩
      conv => whnf
      refine ⟨_, ct44 (rb u) (v : Int), ?_⟩
      conv => whnf
      refine acond_split (fun h6 => ?_) (fun h6 => ?_)
      · exfalso
        have h6 : (!(decide ((u : Int) ∈ ra v) == decide ((v : Int) ∈ rb u))) = true := h6
        rw [hsm, beq_self_eq_true] at h6
        cases h6
      conv => whnf
      refine ⟨_, wi _ (by omega) (by omega), ?_⟩
      conv => whnf
      refine ⟨u + 1, by show u + 1 ≤ N; omega, by show N - (u + 1) < N - u; omega, ?_⟩
      repeat' (first | exact trivial | exact rfl | refine And.intro ?_ ?_)
    · have h5 := ndec h5
      conv => whnf
      refine ⟨_, wi _ (by omega) (by omega), ?_⟩
      conv => whnf
      refine ⟨v + 1, by show v + 1 ≤ N; omega, by show N - (v + 1) < N - v; omega, ?_⟩
      repeat' (first | exact trivial | exact rfl | refine And.intro ?_ ?_)
  have h4 := ndec h4
  conv => whnf
  refine ⟨_, h45, ?_⟩
  conv => whnf
  refine ⟨_, h45b, ?_⟩
  conv => whnf
  refine ⟨_, h47, ?_⟩
  conv => whnf
  refine ⟨_, h47b, ?_⟩
  conv => whnf
  refine .inl ?_
  conv => whnf
  refine ⟨_, ct49 C C, .inl (flat_bool _), ?_⟩
  conv => whnf
  rw [show decide (C = C) = true from decide_eq_true rfl]
  conv => whnf
  refine .inl ?_
  conv => whnf
  refine ⟨_, ct49 D D, .inl (flat_bool _), ?_⟩
  conv => whnf
  rw [show decide (D = D) = true from decide_eq_true rfl]
  conv => whnf
  repeat' (first | exact trivial | exact rfl | refine And.intro ?_ ?_)
end Go.Fx
