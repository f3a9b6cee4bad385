/- Plain: classes, sinks. GraphLeaves: the walks. GraphLeaves: the law's walk. -/
import Derived.Test.YtoajmkplaognnaaK15
import Derived.Test.YtoajmkplaognnaaK7
import Derived.Test.YtoajmkplaognnaaK11
set_option linter.unusedVariables false
set_option linter.unusedSimpArgs false
set_option linter.unusedSectionVars false
namespace Go.Fx.Gr
open Go.Fx Go.Proofs

theorem rep_inj {n : Nat} {es : Es} (hes : inR n es) {r r' j : Nat} (hr : r < n) (hr' : r' < n) (hj : j < n) (h1 : isRep n es r = true) (h2 : isRep n es r' = true) (h3 : both n es r j = true) (h4 : both n es r' j = true) : r = r' := by
  have h5 := mut_trans hes hr hr' h3 (mut_symm h4)
  rcases Nat.lt_trichotomy r r' with h | h | h
  · have := isRep_iff.1 h2 r h
    rw [mut_symm h5] at this; cases this
  · exact h
  · have := isRep_iff.1 h1 r' h
    rw [h5] at this; cases this
theorem reps_asc (n : Nat) (es : Es) (k : Nat) : (reps n es k).Pairwise (· < ·) := List.pairwise_lt_range.sublist List.filter_sublist
theorem ofK_at {n : Nat} {es : Es} (hes : inR n es) {i j : Nat} (hi : i < (reps n es n).length) (hj : j < n) (h : both n es (reps n es n)[i] j = true) : ofK n es n j = i := by
  unfold ofK
  have : (reps n es n).findIdx? (fun r => both n es r j) = some i := by
    rw [List.findIdx?_eq_some_iff_getElem]
    refine ⟨hi, h, fun k hk hb => ?_⟩
    have hm1 := mem_reps.1 (List.getElem_mem hi)
    have hm2 := mem_reps.1 (List.getElem_mem (show k < (reps n es n).length by omega))
    have e := rep_inj hes hm1.1 hm2.1 hj hm1.2 hm2.2 h hb
    have := List.pairwise_iff_getElem.1 (reps_asc n es n) k i (by omega) hi hk
    omega
  rw [this]
theorem ofK_both {n : Nat} {es : Es} {i j : Nat} (hi : i < (reps n es n).length) (h : ofK n es n j = i) : both n es (reps n es n)[i] j = true := by
  unfold ofK at h
  cases hf : (reps n es n).findIdx? (fun r => both n es r j) with
  | none => rw [hf] at h; simp at h
  | some k =>
    rw [hf] at h
    have h : ((k : Nat) : Int) = i := h
    obtain rfl : k = i := by omega
    exact (List.findIdx?_eq_some_iff_getElem.1 hf).2.1
theorem cls_mem {n : Nat} {es : Es} {a : Nat} {x : Int} : x ∈ cls n es a ↔ (0 ≤ x ∧ x < (n : Int)) ∧ both n es a x.toNat = true := by
  unfold cls
  rw [List.mem_map]
  constructor
  · rintro ⟨b, hb, rfl⟩
    obtain ⟨h1, h2⟩ := List.mem_filter.1 hb
    have := List.mem_range.1 h1
    exact ⟨by omega, h2⟩
  · rintro ⟨h1, h2⟩
    exact ⟨x.toNat, List.mem_filter.2 ⟨List.mem_range.2 (by omega), h2⟩, by omega⟩
theorem cls_asc (n : Nat) (es : Es) (a : Nat) : (cls n es a).Pairwise (· < ·) := by
  unfold cls
  refine List.Pairwise.map _ (fun a b h => ?_) (List.pairwise_lt_range.sublist List.filter_sublist)
  omega
theorem compL_get {n : Nat} {es : Es} {i : Nat} (h : i < (compL n es).length) : (compL n es)[i] = cls n es ((reps n es n)[i]'(by simpa [compL] using h)) := by
  simp [compL]
theorem of_iff {n : Nat} {es : Es} (hes : inR n es) {a : Int} (ha : 0 ≤ a ∧ a < (n : Int)) {i : Nat} (hi : i < (compL n es).length) : ofI n es a = i ↔ a ∈ (compL n es)[i] := by
  have hi' : i < (reps n es n).length := by simpa [compL] using hi
  rw [compL_get hi, cls_mem]
  unfold ofI
  constructor
  · intro h; exact ⟨ha, ofK_both hi' h⟩
  · intro h; exact ofK_at hes hi' (by omega) h.2
theorem condL_mem {n : Nat} {es : Es} (hes : inR n es) {x : Int × Int} : x ∈ condL n es ↔ ∃ e ∈ es, x = (ofI n es e.1, ofI n es e.2) ∧ ofI n es e.1 ≠ ofI n es e.2 := by
  unfold condL
  rw [mkL_mem _ _ (condE_in hes)]
  unfold condE condF
  rw [List.mem_filter, List.mem_map]
  constructor
  · rintro ⟨⟨e, he, rfl⟩, h⟩
    exact ⟨e, he, rfl, by simpa using h⟩
  · rintro ⟨e, he, rfl, h⟩
    exact ⟨⟨e, he, rfl⟩, by simpa using h⟩
theorem filter_idx {α : Type} (d : α) (l : List α) (q : α → Bool) : l.filter q = ((List.range l.length).filter fun k => q (l.getD k d)).map fun k => l.getD k d := by
  have h : l = (List.range l.length).map fun k => l.getD k d := by
    apply List.ext_getElem (by simp)
    intro i h1 h2
    simp [h1]
  conv => lhs; rw [h]
  rw [List.filter_map]
  rfl
theorem sinks_eq {n : Nat} {es : Es} (hes : inR n es) : sinksL n es = (compL n es).filter (closedB es) := by
  rw [filter_idx []]
  unfold sinksL sinksP
  congr 1
  refine List.filter_congr fun k hk => ?_
  have hk := List.mem_range.1 hk
  rw [List.getD_eq_getElem?_getD, List.getElem?_eq_getElem hk, Option.getD_some]
  rw [Bool.eq_iff_iff, Bool.not_eq_true', ← Bool.not_eq_true, List.any_eq_true, closedB_iff]
  constructor
  · intro h e he h1
    have hr := hes e he
    rw [← of_iff hes hr.1 hk] at h1
    rw [← of_iff hes hr.2 hk]
    by_cases h2 : ofI n es e.2 = k
    · exact h2
    · exact absurd ⟨_, (condL_mem hes).2 ⟨e, he, rfl, by rw [h1]; exact Ne.symm h2⟩, decide_eq_true h1⟩ h
  · rintro h ⟨x, hx, hxk⟩
    obtain ⟨e, he, rfl, hne⟩ := (condL_mem hes).1 hx
    have hr := hes e he
    have h1 : ofI n es e.1 = k := of_decide_eq_true hxk
    have h2 := (of_iff hes hr.2 hk).2 (h e he ((of_iff hes hr.1 hk).1 h1))
    exact hne (by rw [h1, h2])

theorem countP_lt {α : Type} {p q : α → Bool} : ∀ {l : List α}, (∀ x ∈ l, p x = true → q x = true) → (∃ x ∈ l, q x = true ∧ p x = false) → l.countP p < l.countP q
  | [], _, ⟨x, hx, _⟩ => by cases hx
  | y :: l, h, ⟨x, hx, h1, h2⟩ => by
    have hle : l.countP p ≤ l.countP q := List.countP_mono_left fun z hz => h z (List.mem_cons_of_mem _ hz)
    rw [List.countP_cons, List.countP_cons]
    rcases List.mem_cons.1 hx with rfl | hx
    · rw [h1, h2]; simp; omega
    · have := countP_lt (fun z hz => h z (List.mem_cons_of_mem _ hz)) ⟨x, hx, h1, h2⟩
      have hy := h y List.mem_cons_self
      cases hp : p y <;> cases hq : q y <;> simp_all <;> omega

theorem reach_closed {n : Nat} {es : Es} (hes : inR n es) {l : List Int} (hll : ∀ a ∈ l, 0 ≤ a ∧ a < (n : Int)) : closedB es (reachI n es l) = true := by
  rw [closedB_iff]
  intro e he h1
  obtain ⟨h2, a, ha, h3⟩ := reachI_mem.1 h1
  exact reachI_mem.2 ⟨(hes e he).2, a, ha, within_n hes (hll a ha) (within_step he h3)⟩
theorem closed_eq {n : Nat} {es : Es} (hes : inR n es) {l : List Int} (hll : ∀ a ∈ l, 0 ≤ a ∧ a < (n : Int)) (hasc : l.Pairwise (· < ·)) : closedB es l = decide (reachI n es l = l) := by
  rw [Bool.eq_iff_iff, decide_eq_true_eq]
  constructor
  · intro h
    refine strict_ext (lt := (· < ·)) (fun x => Int.lt_irrefl x) (fun h => by omega) (reachI_asc n es l) hasc fun x => ⟨fun hx => ?_, reach_incl hll⟩
    obtain ⟨_, a, ha, hw⟩ := reachI_mem.1 hx
    exact closed_within h n a x ha hw
  · intro h
    exact (closed_len hes hll hasc).1 (by rw [h])
/-- Each node reaches a component that no edge leaves. -/
theorem sink_of {n : Nat} {es : Es} (hes : inR n es) : ∀ (k v : Nat), v < n → (List.range n).countP (fun (b : Nat) => within es n (v : Int) (b : Int)) ≤ k → ∃ w, w < n ∧ within es n (v : Int) (w : Int) = true ∧ closedB es (cls n es w) = true
  | 0, v, hv, h => by
    have : 0 < (List.range n).countP (fun (b : Nat) => within es n (v : Int) (b : Int)) := List.countP_pos_iff.2 ⟨v, List.mem_range.2 hv, within_refl es n _⟩
    omega
  | k + 1, v, hv, h => by
    cases hc : closedB es (cls n es v) with
    | true => exact ⟨v, hv, within_refl es n _, hc⟩
    | false =>
      have hc' : ¬ closedB es (cls n es v) = true := by rw [hc]; simp
      rw [closedB_iff] at hc'
      obtain ⟨e, he, h1, h2⟩ : ∃ e ∈ es, e.1 ∈ cls n es v ∧ e.2 ∉ cls n es v := by
        refine Classical.byContradiction fun hn => hc' fun e he h1 => Classical.byContradiction fun h2 => hn ⟨e, he, h1, h2⟩
      have hr := hes e he
      have hb := (cls_mem.1 h1).2
      simp only [both, Bool.and_eq_true] at hb
      have hvb : within es n (v : Int) e.2 = true := within_n hes (by omega) (within_step he (by have := hb.1; rwa [show ((e.1.toNat : Nat) : Int) = e.1 by omega] at this))
      have hbv : within es n e.2 (v : Int) = false := by
        cases hw : within es n e.2 (v : Int) with
        | false => rfl
        | true =>
          exfalso
          refine h2 (cls_mem.2 ⟨hr.2, ?_⟩)
          simp only [both, Bool.and_eq_true]
          rw [show ((e.2.toNat : Nat) : Int) = e.2 by omega]
          exact ⟨hvb, hw⟩
      have hlt := countP_lt (l := List.range n) (p := fun (b : Nat) => within es n e.2 (b : Int)) (q := fun (b : Nat) => within es n (v : Int) (b : Int))
        (fun x hx hp => within_n hes (by omega) (within_trans hvb hp)) ⟨v, List.mem_range.2 hv, within_refl es n _, hbv⟩
      obtain ⟨w, h3, h4, h5⟩ := sink_of hes k e.2.toNat (by omega) (by rw [show ((e.2.toNat : Nat) : Int) = e.2 by omega]; omega)
      rw [show ((e.2.toNat : Nat) : Int) = e.2 by omega] at h4
      exact ⟨w, h3, within_n hes (by omega) (within_trans hvb h4), h5⟩
theorem cls_same {n : Nat} {es : Es} (hes : inR n es) {r w : Nat} (hr : r < n) (hw : w < n) (h : both n es r w = true) : cls n es r = cls n es w := by
  refine strict_ext (lt := (· < ·)) (fun x => Int.lt_irrefl x) (fun h => by omega) (cls_asc n es r) (cls_asc n es w) fun x => ?_
  rw [cls_mem, cls_mem]
  constructor
  · rintro ⟨h1, h2⟩; exact ⟨h1, mut_trans hes hw (by omega) (mut_symm h) h2⟩
  · rintro ⟨h1, h2⟩; exact ⟨h1, mut_trans hes hr (by omega) h h2⟩
theorem cls_comp {n : Nat} {es : Es} (hes : inR n es) {w : Nat} (hw : w < n) : cls n es w ∈ compL n es := by
  obtain ⟨r, h1, h2, h3⟩ := rep_of hes w hw
  unfold compL
  refine List.mem_map.2 ⟨r, mem_reps.2 ⟨by omega, h2⟩, cls_same hes (by omega) hw h3⟩

/-- GraphLeaves' last sentence. -/
def insideS (all s : List Int) : Bool := decide (0 < s.length) && !s.any fun v => !decide (v ∈ all)
theorem leaves_in {n : Nat} {es : Es} (hes : inR n es) {l : List Int} (hll : ∀ a ∈ l, 0 ≤ a ∧ a < (n : Int)) : (sinksL n es).any (insideS (reachI n es l)) = decide (0 < (reachI n es l).length) := by
  rw [Bool.eq_iff_iff, decide_eq_true_eq, List.any_eq_true]
  constructor
  · rintro ⟨s, _, hs⟩
    simp only [insideS, Bool.and_eq_true, decide_eq_true_eq, Bool.not_eq_true', List.any_eq_false] at hs
    obtain ⟨x, hx⟩ : ∃ x, x ∈ s := ⟨_, List.getElem_mem hs.1⟩
    have := hs.2 x hx
    exact List.length_pos_of_mem (a := x) (by simpa using this)
  · intro h
    obtain ⟨x, hx⟩ : ∃ x, x ∈ reachI n es l := ⟨_, List.getElem_mem h⟩
    obtain ⟨hr, a, ha, hw⟩ := reachI_mem.1 hx
    obtain ⟨w, h1, h2, h3⟩ := sink_of hes _ x.toNat (by omega) (Nat.le_refl _)
    rw [show ((x.toNat : Nat) : Int) = x by omega] at h2
    refine ⟨cls n es w, ?_, ?_⟩
    · rw [sinks_eq hes]
      exact List.mem_filter.2 ⟨cls_comp hes h1, h3⟩
    · simp only [insideS, Bool.and_eq_true, decide_eq_true_eq, Bool.not_eq_true', List.any_eq_false]
      refine ⟨List.length_pos_of_mem (a := (w : Int)) (cls_mem.2 ⟨by omega, mut_refl n es w⟩), fun y hy => ?_⟩
      obtain ⟨h4, h5⟩ := cls_mem.1 hy
      simp only [both, Bool.and_eq_true] at h5
      have h6 := h5.1
      rw [show ((y.toNat : Nat) : Int) = y by omega] at h6
      have : y ∈ reachI n es l := reachI_mem.2 ⟨h4, a, ha, within_n hes (hll a ha) (within_trans hw (within_n hes hr (within_trans h2 h6)))⟩
      simp [this]
end Go.Fx.Gr

namespace Go.Fx
open Go.Proofs Gr
set_option maxRecDepth 100000

theorem ct92 (xs : List (List Int)) (g n : Nat) (caps : Nat → CVal) (p : List Int → Bool) (h : ∀ e ∈ xs, Ct Try.prog g ([.one (ints e)] ++ capsL caps 0 n) (.c (.bool (p e)))) :
    Ct Try.prog 92 [.one (table xs), .one (.fn g n caps)] (.c (i64 (idxF p xs))) := by
  refine ct_of tyAll Try.func92 (by decide) rfl ?_
  conv => whnf
  intro hlen
  conv => whnf
  refine ⟨Nat, fun k => k ≤ xs.length ∧ ∀ j, (hj : j < k) → (hj' : j < xs.length) → p xs[j] = false, fun k => ⟨(sk 0 (.c (table xs) :: (sk 0 (.c (.fn g n caps) :: (sk 4 (.c (table xs) :: (sk 0 (I xs.length :: (sk 0 (I k :: (sk 10 []))))))))))), [], []⟩, fun k => xs.length - k, 0, ⟨by omega, fun j hj => by omega⟩, ?_, fun k hk => ?_⟩
  · repeat' (first | exact trivial | exact rfl | refine And.intro ?_ ?_)
  obtain ⟨hk, hp⟩ := hk
  conv => whnf
  refine acond_split (fun h1 => ?_) (fun h1 => ?_)
  · have h1 := dec h1
    conv => whnf
    have hlt : k < xs.length := by omega
    refine ⟨xs[k], by omega, List.getElem?_eq_getElem hlt, ?_⟩
    conv => whnf
    refine ⟨_, h xs[k] (List.getElem_mem hlt), ?_⟩
    conv => whnf
    refine acond_split (fun h2 => ?_) (fun h2 => ?_)
    · conv => whnf
      refine ⟨?_, trivial⟩
      exact congrArg i64 (idxF_at hlt h2 fun j hj => hp j hj (by omega))
    · conv => whnf
      refine ⟨_, wi _ (by omega) (by omega), ?_⟩
      conv => whnf
      refine ⟨k + 1, ⟨by omega, fun j hj hj' => ?_⟩, by show xs.length - (k + 1) < xs.length - k; omega, ?_⟩
      · rcases Nat.lt_or_ge j k with h | h
        · exact hp j h hj'
        · obtain rfl : j = k := by omega
          exact h2
      repeat' (first | exact trivial | exact rfl | refine And.intro ?_ ?_)
  · have h1 := ndec h1
    conv => whnf
    refine ⟨?_, trivial⟩
    exact congrArg i64 (idxF_none fun j hj => hp j (by omega) hj)

theorem ct40 (xs : List (List Int)) (g n : Nat) (caps : Nat → CVal) (p : List Int → Bool) (h : ∀ e ∈ xs, Ct Try.prog g ([.one (ints e)] ++ capsL caps 0 n) (.c (.bool (p e)))) :
    Ct Try.prog 40 [.one (table xs), .one (.fn g n caps)] (.c (.bool (xs.any p))) := by
  refine ct_of tyAll Try.func40 (by decide) rfl ?_
  conv => whnf
  refine ⟨_, ct92 xs g n caps p h, ?_⟩
  conv => whnf
  refine ⟨?_, trivial⟩
  show CVal.bool _ = CVal.bool _
  congr 1
  exact (idxF_nonneg p xs).symm

theorem ct43 (v : Int) (all : List Int) : Ct Try.prog 43 [.one (i64 v), .one (.ref 1 fun i => [ints all].getD i .nil)] (.c (.bool (!decide (v ∈ all)))) := by
  refine ct_of tyAll Try.func43 (by decide) rfl ?_
  conv => whnf
  refine ⟨_, ct44 all v, ?_⟩
  conv => whnf
  repeat' (first | exact trivial | exact rfl | refine And.intro ?_ ?_)

theorem ct41 (s all : List Int) : Ct Try.prog 41 [.one (ints s), .one (.ref 1 fun i => [ints all].getD i .nil)] (.c (.bool (insideS all s))) := by
  refine ct_of tyAll Try.func41 (by decide) rfl ?_
  conv => whnf
  intro _
  conv => whnf
  refine acond_split (fun h1 => ?_) (fun h1 => ?_)
  · have h1 : (0 : Int) < s.length := of_decide_eq_true h1
    conv => whnf
    refine ⟨_, ct42 s 43 1 (fun i => [CVal.ref 1 fun i => [ints all].getD i .nil].getD i .nil) (fun v => !decide (v ∈ all)) (fun v _ => ct43 v all), ?_⟩
    conv => whnf
    refine ⟨?_, trivial⟩
    show CVal.bool _ = CVal.bool _
    congr 1
    unfold insideS
    rw [decide_eq_true (by omega : 0 < s.length), Bool.true_and]
  · have h1 : ¬ (0 : Int) < s.length := of_decide_eq_false h1
    conv => whnf
    refine ⟨?_, trivial⟩
    show CVal.bool _ = CVal.bool _
    congr 1
    unfold insideS
    rw [decide_eq_false (by omega : ¬ 0 < s.length), Bool.false_and]
end Go.Fx

namespace Go.Fx
open Go.Proofs Gr
set_option maxRecDepth 100000

set_option maxHeartbeats 2000000 in
theorem ct6 (n : Int) (es : Es) (a : Int) : Ct Try.prog 6 [gA n es, .one (u8 a)] (.c (.bool true)) := by
  refine ct_of tyAll Try.func6 (by decide) rfl ?_
  conv => whnf
  refine ⟨_, ct14, ?_⟩
  conv => whnf
  refine ⟨_, ct22 n es, ?_⟩
  conv => whnf
  refine acond_split (fun h1 => ?_) (fun h1 => ?_)
  · have h1 : fineB n es = false := Eq.mp (Bool.not_eq_true' _) h1
    conv => whnf
    refine ⟨_, ct14, ?_⟩
    conv => whnf
    repeat' (first | exact trivial | exact rfl | refine And.intro ?_ ?_)
  have h1 : fineB n es = true := Eq.mp (Bool.not_eq_false' _) h1
  obtain ⟨N, rfl, hN, hes, hs, hl, hc⟩ := fine_ok h1
  conv => whnf
  have h36 := ct36 N es a
  rw [show (min (N : Int) 8).toNat = N by omega] at h36
  have hll := chosen_lt a N
  have hasc := chosen_asc a N
  have hcl := chosen_length a N
  obtain ⟨l, hle⟩ : ∃ l, l = chosenL a N := ⟨_, rfl⟩
  rw [← hle] at h36 hll hasc hcl
  clear hle
  have hr := ready_of hc hll hasc
  have h37 := ct37 N es l (by omega)
  rw [reachRv, if_pos hr, Int.toNat_natCast] at h37
  have hall : ∀ x ∈ reachI N es l, 0 ≤ x ∧ x < (N : Int) := fun x hx => (reachI_mem.1 hx).1
  have hr2 := ready_of hc hall (reachI_asc N es l)
  have h38 := ct38 N es (reachI N es l)
  rw [closedRv, if_pos hr2, reach_closed hes hll] at h38
  have h38b := ct38 N es l
  rw [closedRv, if_pos hr, closed_eq hes hll hasc] at h38b
  have h39 := ct39 N es
  rw [sinksRv, if_pos hc, Int.toNat_natCast] at h39
  have hin := leaves_in hes hll
  obtain ⟨all, hae⟩ : ∃ all, all = reachI N es l := ⟨_, rfl⟩
  obtain ⟨sk, hsk⟩ : ∃ sk, sk = sinksL N es := ⟨_, rfl⟩
  rw [← hae] at h37 h38 h38b hin
  rw [← hsk] at h39 hin
  clear hae hsk hall hr2
  refine ⟨_, h36, ?_⟩
  conv => whnf
  refine .inl ?_
  conv => whnf
  refine ⟨_, h37, .inl (flat_ints _ _), ?_⟩
  conv => whnf
  refine .inl ?_
  conv => whnf
  refine ⟨_, h38, .inl (fun x hx => by rcases List.mem_cons.1 hx with rfl | hx; exact flat_bool _; rcases List.mem_cons.1 hx with rfl | hx; exact flat_int _ _; cases hx), ?_⟩
  conv => whnf
  refine .inl ?_
  conv => whnf
  refine ⟨_, h38b, .inl (fun x hx => by rcases List.mem_cons.1 hx with rfl | hx; exact flat_bool _; rcases List.mem_cons.1 hx with rfl | hx; exact flat_int _ _; cases hx), ?_⟩
  conv => whnf
  refine ⟨_, h39, ?_⟩
  conv => whnf
  refine .inl ?_
  conv => whnf
  refine ⟨_, ct29 all l, .inl (flat_bool _), ?_⟩
  conv => whnf
  obtain ⟨b, hb⟩ : ∃ b, b = decide (all = l) := ⟨_, rfl⟩
  simp only [← hb]
  conv => whnf
  refine acond_split (fun h2 => ?_) (fun h2 => ?_)
  · exfalso
    have h2 : (!(b == b)) = true := h2
    rw [beq_self_eq_true b] at h2
    cases h2
  conv => whnf
  refine .inl ?_
  conv => whnf
  refine ⟨_, ct40 sk 41 1 (fun i => [CVal.ref 1 fun i => [ints all].getD i .nil].getD i .nil) (insideS all) (fun s _ => ct41 s all), .inl (flat_bool _), ?_⟩
  conv => whnf
  rw [hin]
  conv => whnf
  intro _
  conv => whnf
  refine ⟨?_, trivial⟩
  show CVal.bool _ = CVal.bool _
  congr 1
  have e : decide ((0 : Int) < (all.length : Int)) = decide (0 < all.length) := decide_eq_decide.2 (by omega)
  show (true : Bool) = (decide (0 < all.length) == decide ((0 : Int) < (all.length : Int)))
  rw [e]
  exact (beq_self_eq_true _).symm
end Go.Fx
