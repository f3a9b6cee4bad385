/- The reference's Closure, Closed; GraphReaches. -/
import Derived.Test.YtoajmkplaognnaaK14
set_option linter.unusedVariables false
set_option linter.unusedSimpArgs false
set_option linter.unusedSectionVars false
namespace Go.Fx
open Go.Proofs Gr
set_option maxRecDepth 100000

theorem ct64 (n : Nat) (hn : n ≤ 64) (es : Es) (hes : inR n es) (hl : es.length ≤ 1000000) : Ct Try.prog 64 [rA n es] (.row (tableR (closI n es))) := by
  refine ct_of tyAll Try.func64 (by decide) rfl ?_
  have hcl2 : (closI n es).length = n := by simp [closI]
  conv => whnf
  refine ⟨Nat, fun k => k ≤ n, fun k => ⟨(sk 1 (.p (.one (.lptr 1 0)) :: (sk 1 (W 100 0 :: (sk 0 (I k :: (sk 14 []))))))), [(1, [.c (i64 n), .c (prs es)])], [(100, (0, tableR ((closI n es).take k)))]⟩, fun k => n - k, 0, by omega, ?_, fun k hk => ?_⟩
  · repeat' (first | exact trivial | exact rfl | refine And.intro ?_ ?_)
  have hk : k ≤ n := hk
  conv => whnf
  refine acond_split (fun h1 => ?_) (fun h1 => ?_)
  · have h1 := dec h1
    conv => whnf
    have hlt : k < n := by omega
    refine ⟨Int, fun n _ => i64 n, [(k : Int)], rfl, by decide, rfl, ?_⟩
    conv => whnf
    refine .inl ?_
    conv => whnf
    refine ⟨_, ct63 n hn es hes hl [(k : Int)] (by intro a ha; have : a = k := (by simpa using ha); omega), .inl (fun x i => flat_int _ _), ?_⟩
    conv => whnf
    refine ⟨List Int, fun r _ => ints r, [reachI n es [(k : Int)]], rfl, by decide, rfl, ?_⟩
    conv => whnf
    refine ⟨[reachI n es [(k : Int)]], rfl, by simp; omega, by simp; omega, ?_⟩
    conv => whnf
    refine ⟨_, wi _ (by omega) (by omega), ?_⟩
    conv => whnf
    refine ⟨k + 1, by show k + 1 ≤ n; omega, by show n - (k + 1) < n - k; omega, ?_⟩
    repeat' (first | exact trivial | exact rfl | refine And.intro ?_ ?_)
    show tableR ((closI n es).take k ++ [reachI n es [(k : Int)]]) = tableR ((closI n es).take (k + 1))
    rw [closI_take hlt]
  · have h1 := ndec h1
    conv => whnf
    have hk' : k = n := by omega
    subst hk'
    refine ⟨?_, trivial⟩
    show tableR (closI k es) = tableR ((closI k es).take k)
    rw [List.take_of_length_le (by omega)]

theorem ct65 (n : Nat) (hn : n ≤ 64) (es : Es) (hes : inR n es) (hl : es.length ≤ 1000000) (l : List Int) (hll : ∀ a ∈ l, 0 ≤ a ∧ a < (n : Int)) :
    Ct Try.prog 65 [rA n es, .one (ints l)] (.c (.bool (decide ((reachI n es l).length = l.length)))) := by
  refine ct_of tyAll Try.func65 (by decide) rfl ?_
  conv => whnf
  refine ⟨_, ct63 n hn es hes hl l hll, ?_⟩
  conv => whnf
  intro _
  conv => whnf
  intro _
  conv => whnf
  refine ⟨?_, trivial⟩
  show CVal.bool _ = CVal.bool _
  congr 1
  exact decide_eq_decide.2 ⟨fun h => by show ((reachI n es l).length : Int) = _; omega, fun h => by have h : ((reachI n es l).length : Int) = (l.length : Int) := h; omega⟩
end Go.Fx
namespace Go.Fx.Gr
theorem listedL_mem : ∀ (l : List Bool) (k : Nat) (x : Int), x ∈ listedL l k ↔ ∃ i : Nat, ∃ h : i < l.length, l[i] = true ∧ x = ((k + i : Nat) : Int)
  | [], k, x => by simp [listedL]
  | b :: l, k, x => by
    have ih := listedL_mem l (k + 1) x
    have key : (∃ i : Nat, ∃ h : i < (b :: l).length, (b :: l)[i] = true ∧ x = ((k + i : Nat) : Int)) ↔ (b = true ∧ x = (k : Int)) ∨ ∃ i : Nat, ∃ h : i < l.length, l[i] = true ∧ x = ((k + 1 + i : Nat) : Int) := by
      constructor
      · rintro ⟨i, h, h1, h2⟩
        cases i with
        | zero => exact .inl ⟨h1, h2⟩
        | succ i => exact .inr ⟨i, by simpa using h, by simpa using h1, by rw [h2]; congr 1; omega⟩
      · rintro (⟨h1, h2⟩ | ⟨i, h, h1, h2⟩)
        · exact ⟨0, by simp, h1, h2⟩
        · exact ⟨i + 1, by simpa using h, by simpa using h1, by rw [h2]; congr 1; omega⟩
    rw [key, ← ih, listedL]
    cases b <;> simp
theorem listedL_asc : ∀ (l : List Bool) (k : Nat), (listedL l k).Pairwise (· < ·)
  | [], _ => List.Pairwise.nil
  | b :: l, k => by
    have ih := listedL_asc l (k + 1)
    rw [listedL]
    split
    · refine List.pairwise_cons.2 ⟨fun x hx => ?_, ih⟩
      obtain ⟨i, _, _, rfl⟩ := (listedL_mem l (k + 1) x).1 hx
      omega
    · exact ih
theorem nodup_sub {α : Type} [BEq α] [LawfulBEq α] : ∀ {l r : List α}, l.Nodup → (∀ x ∈ l, x ∈ r) → l.length ≤ r.length
  | [], _, _, _ => Nat.zero_le _
  | x :: l, r, hn, h => by
    have hn := List.nodup_cons.1 hn
    have h1 := nodup_sub (l := l) (r := r.erase x) hn.2 (fun y hy => by
      have : y ≠ x := fun e => hn.1 (e ▸ hy)
      exact (List.mem_erase_of_ne this).2 (h y (List.mem_cons_of_mem _ hy)))
    rw [List.length_erase_of_mem (h x List.mem_cons_self)] at h1
    have : 0 < r.length := List.length_pos_of_mem (h x List.mem_cons_self)
    simp
    omega
theorem asc_nodup {l : List Int} (h : l.Pairwise (· < ·)) : l.Nodup := h.imp fun h => by omega
end Go.Fx.Gr
namespace Go.Fx
open Go.Proofs Gr
set_option maxRecDepth 100000
theorem reachI_mem {n : Nat} {es : Es} {l : List Int} {x : Int} : x ∈ reachI n es l ↔ (0 ≤ x ∧ x < (n : Int)) ∧ ∃ a ∈ l, within es n a x = true := by
  unfold reachI
  rw [listedL_mem]
  constructor
  · rintro ⟨i, h, h1, rfl⟩
    have h : i < n := by rw [reachL_length] at h; exact h
    rw [reachL_get h, List.any_eq_true] at h1
    refine ⟨by omega, ?_⟩
    rw [Nat.zero_add]
    exact h1
  · rintro ⟨h, h1⟩
    have hx : x.toNat < n := by omega
    refine ⟨x.toNat, by rw [reachL_length]; exact hx, ?_, by omega⟩
    rw [reachL_get hx, List.any_eq_true, show ((x.toNat : Nat) : Int) = x by omega]
    exact h1
theorem reachI_asc (n : Nat) (es : Es) (l : List Int) : (reachI n es l).Pairwise (· < ·) := listedL_asc _ _
theorem closedB_iff {es : Es} {l : List Int} : closedB es l = true ↔ ∀ e ∈ es, e.1 ∈ l → e.2 ∈ l := by
  unfold closedB
  rw [List.all_eq_true]
  refine forall_congr' fun e => forall_congr' fun _ => ?_
  by_cases h1 : e.1 ∈ l <;> by_cases h2 : e.2 ∈ l <;> simp [h1, h2]
theorem closed_within {es : Es} {l : List Int} (h : closedB es l = true) : ∀ (k : Nat) (a b : Int), a ∈ l → within es k a b = true → b ∈ l := by
  intro k
  induction k with
  | zero => intro a b ha hw; have : a = b := by simpa [within] using hw
            exact this ▸ ha
  | succ k ih =>
    intro a b ha hw
    rcases within_inv hw with hw | ⟨e, he, h1, rfl⟩
    · exact ih a b ha hw
    · exact closedB_iff.1 h e he (ih a _ ha h1)
theorem reach_incl {n : Nat} {es : Es} {l : List Int} (hll : ∀ a ∈ l, 0 ≤ a ∧ a < (n : Int)) {x : Int} (h : x ∈ l) : x ∈ reachI n es l :=
  reachI_mem.2 ⟨hll x h, x, h, within_refl es n x⟩
theorem closed_len {n : Nat} {es : Es} {l : List Int} (hes : inR n es) (hll : ∀ a ∈ l, 0 ≤ a ∧ a < (n : Int)) (hasc : l.Pairwise (· < ·)) :
    (reachI n es l).length = l.length ↔ closedB es l = true := by
  constructor
  · intro h
    rw [closedB_iff]
    intro e he h1
    by_cases h2 : e.2 ∈ l
    · exact h2
    exfalso
    have h3 : e.2 ∈ reachI n es l := by
      refine reachI_mem.2 ⟨(hes e he).2, e.1, h1, ?_⟩
      refine within_n (k := 0 + 1) hes (hes e he).1 ?_
      exact within_step he (within_refl es 0 e.1)
    have := nodup_sub (l := e.2 :: l) (r := reachI n es l) (List.nodup_cons.2 ⟨h2, asc_nodup hasc⟩) (fun x hx => by
      rcases List.mem_cons.1 hx with rfl | hx
      · exact h3
      · exact reach_incl hll hx)
    simp at this
    omega
  · intro h
    have h1 := nodup_sub (asc_nodup hasc) (r := reachI n es l) (fun x hx => reach_incl hll hx)
    have h2 := nodup_sub (asc_nodup (reachI_asc n es l)) (r := l) (fun x hx => by
      obtain ⟨_, a, ha, hw⟩ := reachI_mem.1 hx
      exact closed_within h n a x ha hw)
    omega

theorem ascB_of {l : List Int} (h : l.Pairwise (· < ·)) : ascB l = true := by
  rw [ascB_iff]
  intro j hj
  exact List.pairwise_iff_getElem.1 h j (j + 1) (by omega) hj (by omega)
theorem ready_of {N : Nat} {es : Es} {l : List Int} (hc : checkG N es = 0) (hll : ∀ a ∈ l, 0 ≤ a ∧ a < (N : Int)) (hasc : l.Pairwise (· < ·)) : readyE N es l = 0 := by
  unfold readyE
  rw [if_neg (by simp [hc]), nodesE, if_neg, if_pos (ascB_of hasc)]
  intro h
  obtain ⟨a, ha, hb⟩ := List.any_eq_true.1 h
  have := hll a ha
  simp only [beyondB, Bool.or_eq_true, decide_eq_true_eq] at hb
  omega

set_option maxHeartbeats 2000000 in
theorem ct10 (n : Int) (es : Es) (a : Int) : Ct Try.prog 10 [gA n es, .one (u8 a)] (.c (.bool true)) := by
  refine ct_of tyAll Try.func10 (by decide) rfl ?_
  conv => whnf
  refine ⟨_, ct14, ?_⟩
  conv => whnf
  refine ⟨_, ct22 n es, ?_⟩
  conv => whnf
  refine acond_split (fun h1 => ?_) (fun h1 => ?_)
  · have h1 : fineB n es = false := Eq.mp (Bool.not_eq_true' _) h1
    conv => whnf
    refine ⟨_, ct14, ?_⟩
    conv => whnf
    repeat' (first | exact trivial | exact rfl | refine And.intro ?_ ?_)
  have h1 : fineB n es = true := Eq.mp (Bool.not_eq_false' _) h1
  obtain ⟨N, rfl, hN, hes, hs, hl, hc⟩ := fine_ok h1
  conv => whnf
  have h36 := ct36 N es a
  rw [show (min (N : Int) 8).toNat = N by omega] at h36
  have hll := chosen_lt a N
  have hasc := chosen_asc a N
  have hcl := chosen_length a N
  obtain ⟨l, hle⟩ : ∃ l, l = chosenL a N := ⟨_, rfl⟩
  rw [← hle] at h36 hll hasc hcl
  have hr := ready_of hc hll hasc
  have h37 := ct37 N es l (by omega)
  have h62 := ct62 N es
  have h38 := ct38 N es l
  have h63 := ct63 N (by omega) es hes (by omega) l hll
  have h64 := ct64 N (by omega) es hes (by omega)
  have h65 := ct65 N (by omega) es hes (by omega) l hll
  rw [reachRv, if_pos hr, Int.toNat_natCast] at h37
  rw [closRv, if_pos hc, Int.toNat_natCast] at h62
  rw [closedRv, if_pos hr] at h38
  rw [show decide ((reachI N es l).length = l.length) = closedB es l from by have := closed_len hes hll hasc; cases hb : closedB es l <;> simp [hb] at this ⊢ <;> exact this] at h65
  obtain ⟨cl, hcle⟩ : ∃ cl, cl = closedB es l := ⟨_, rfl⟩
  rw [← hcle] at h65 h38
  clear hcle hle
  refine ⟨_, h36, ?_⟩
  conv => whnf
  refine ⟨_, ct24 N es (by omega), ?_⟩
  conv => whnf
  refine .inl ?_
  conv => whnf
  refine ⟨_, h37, .inl (flat_ints _ _), ?_⟩
  conv => whnf
  refine .inr (.inl ?_)
  conv => whnf
  refine ⟨_, h62, ?_⟩
  conv => whnf
  refine .inl ?_
  conv => whnf
  refine ⟨_, h38, .inl (fun x hx => by rcases List.mem_cons.1 hx with rfl | hx; exact flat_bool _; rcases List.mem_cons.1 hx with rfl | hx; exact flat_int _ _; cases hx), ?_⟩
  conv => whnf
  refine ⟨_, ct26 N es (by omega), ?_⟩
  conv => whnf
  refine .inl ?_
  conv => whnf
  refine ⟨_, h63, .inl (fun x i => flat_int _ _), ?_⟩
  conv => whnf
  refine .inl ?_
  conv => whnf
  refine ⟨_, ct29 (reachI N es l) (reachI N es l), .inl (flat_bool _), ?_⟩
  conv => whnf
  rw [show decide (reachI N es l = reachI N es l) = true from decide_eq_true rfl]
  conv => whnf
  refine .inr (.inl ?_)
  conv => whnf
  refine ⟨_, h64, ?_⟩
  conv => whnf
  refine .inl ?_
  conv => whnf
  refine ⟨_, ct49 (closI N es) (closI N es), .inl (flat_bool _), ?_⟩
  conv => whnf
  rw [show decide (closI N es = closI N es) = true from decide_eq_true rfl]
  conv => whnf
  refine .inl ?_
  conv => whnf
  refine ⟨_, h65, .inl (flat_bool _), ?_⟩
  conv => whnf
  rw [show (cl == cl) = true from beq_self_eq_true cl]
  conv => whnf
  refine ⟨_, ct66 es es, ?_⟩
  conv => whnf
  rw [show decide (es = es) = true from decide_eq_true rfl]
  conv => whnf
  repeat' (first | exact trivial | exact rfl | refine And.intro ?_ ?_)
end Go.Fx
