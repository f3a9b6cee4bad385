/- Plain: the table of distances, step by step. The reference's Table. Plain: the reference's walk is the first shortest path. The reference's walk, Path, Tree, Back. The reference's Path, Tree, Back. The reference's Tree and Back. The reference's Back. -/
import Derived.Test.YtoajmkplaognnaaK8
import Derived.Test.YtoajmkplaognnaaK11
set_option linter.unusedVariables false
set_option linter.unusedSimpArgs false
set_option linter.unusedSectionVars false
namespace Go.Fx.Gr
open Go.Fx

/-- What is known of distances up to s. -/
def distU (n : Nat) (es : Es) (a : Int) (s : Nat) (b : Nat) : Int := if dist n es a (b : Int) ≤ s then dist n es a (b : Int) else -1
/-- .. in step s, behind some of the edges. -/
def distI (n : Nat) (es : Es) (a : Int) (s i : Nat) (b : Nat) : Int :=
  if dist n es a (b : Int) ≤ s then dist n es a (b : Int) else if dist n es a (b : Int) = s + 1 ∧ ∃ e ∈ es.take i, e.2 = (b : Int) ∧ dist n es a e.1 = s then s + 1 else -1

theorem distI_zero (n : Nat) (es : Es) (a : Int) (s : Nat) : distI n es a s 0 = distU n es a s := by
  funext b
  unfold distI distU
  split
  · rfl
  · rw [if_neg (by simp)]

theorem dist_cases {n : Nat} {es : Es} (hes : inR n es) {a : Int} (ha : 0 ≤ a ∧ a < n) (b : Int) : dist n es a b = -1 ∨ 0 ≤ dist n es a b := by
  rcases dist_spec (b := b) hes ha with ⟨d, h1, _⟩ | ⟨h1, _⟩
  · right; omega
  · left; exact h1

theorem dist_edge {n : Nat} {es : Es} (hes : inR n es) {a : Int} (ha : 0 ≤ a ∧ a < n) {e : Int × Int} (he : e ∈ es) (h : 0 ≤ dist n es a e.1) : 0 ≤ dist n es a e.2 ∧ dist n es a e.2 ≤ dist n es a e.1 + 1 := by
  rcases dist_spec (b := e.1) hes ha with ⟨d, h1, h2⟩ | ⟨h1, _⟩
  · obtain ⟨d', h3, h4⟩ := far_of (within_step he h2.1)
    have := dist_far hes ha h4
    omega
  · omega

theorem distI_all {n : Nat} {es : Es} (hes : inR n es) {a : Int} (ha : 0 ≤ a ∧ a < n) (s : Nat) : distI n es a s es.length = distU n es a (s + 1) := by
  funext b
  unfold distI distU
  rw [List.take_length]
  by_cases h1 : dist n es a (b : Int) ≤ s
  · rw [if_pos h1, if_pos (by omega)]
  · rw [if_neg h1]
    by_cases h2 : dist n es a (b : Int) = s + 1
    · have hex : ∃ e ∈ es, e.2 = (b : Int) ∧ dist n es a e.1 = s := by
        rcases dist_spec (b := (b : Int)) hes ha with ⟨d, h3, h4⟩ | ⟨h3, _⟩
        · obtain rfl : d = s + 1 := by omega
          obtain ⟨e, he, h5, h6⟩ := far_pred h4
          exact ⟨e, he, h5, dist_far hes ha h6⟩
        · omega
      rw [if_pos ⟨h2, hex⟩, if_pos (show dist n es a (b : Int) ≤ ((s + 1 : Nat) : Int) by omega), h2]
    · rw [if_neg (fun h => h2 h.1), if_neg (show ¬ dist n es a (b : Int) ≤ ((s + 1 : Nat) : Int) by omega)]

theorem distU_start {n : Nat} {es : Es} (hes : inR n es) {a : Int} (ha : 0 ≤ a ∧ a < n) (b : Nat) : distU n es a 0 b = if (b : Int) = a then 0 else -1 := by
  unfold distU
  by_cases e : (b : Int) = a
  · rw [if_pos e, e, dist_self hes ha, if_pos (by omega)]
  · rw [if_neg e]
    split
    · rename_i h
      rcases dist_spec (b := (b : Int)) hes ha with ⟨d, h1, h2⟩ | ⟨h1, _⟩
      · have : d = 0 := by omega
        subst this
        exact absurd (by simpa [within] using h2.1) (Ne.symm e)
      · exact h1
    · rfl

theorem distU_end {n : Nat} {es : Es} (hes : inR n es) {a : Int} (ha : 0 ≤ a ∧ a < n) (b : Nat) : distU n es a n b = dist n es a (b : Int) := by
  unfold distU
  rcases dist_spec (b := (b : Int)) hes ha with ⟨d, h1, h2⟩ | ⟨h1, _⟩
  · rw [if_pos (by have := far_lt hes ha h2; omega)]
  · rw [if_pos (by omega)]

/-- An edge that leads on. -/
theorem distI_yes {n : Nat} {es : Es} (hes : inR n es) {a : Int} (ha : 0 ≤ a ∧ a < n) {s i : Nat} (hi : i < es.length) (h1 : distI n es a s i es[i].1.toNat = s) (h2 : distI n es a s i es[i].2.toNat < 0) :
    distI n es a s (i + 1) = fun b => if b = es[i].2.toNat then (s : Int) + 1 else distI n es a s i b := by
  have he := List.getElem_mem hi
  obtain ⟨r1, r2⟩ := hes _ he
  have e1 : ((es[i].1.toNat : Nat) : Int) = es[i].1 := by omega
  have e2 : ((es[i].2.toNat : Nat) : Int) = es[i].2 := by omega
  have hd1 : dist n es a es[i].1 = s := by
    unfold distI at h1
    rw [e1] at h1
    split at h1
    · exact h1
    · split at h1
      · omega
      · omega
  have hd := dist_edge hes ha he (by omega)
  have hd2 : dist n es a es[i].2 = s + 1 := by
    unfold distI at h2
    rw [e2] at h2
    split at h2
    · omega
    · omega
  funext b
  by_cases eb : b = es[i].2.toNat
  · rw [if_pos eb]
    subst eb
    unfold distI
    rw [e2, hd2, if_neg (by omega), if_pos ⟨rfl, es[i], (by rw [List.take_succ_eq_append_getElem hi]; exact List.mem_append_right _ (List.mem_singleton.2 rfl)), rfl, hd1⟩]
  · rw [if_neg eb]
    unfold distI
    have : (∃ e ∈ es.take (i + 1), e.2 = (b : Int) ∧ dist n es a e.1 = s) ↔ ∃ e ∈ es.take i, e.2 = (b : Int) ∧ dist n es a e.1 = s := by
      rw [List.take_succ_eq_append_getElem hi]
      constructor
      · rintro ⟨e, he', h3, h4⟩
        rcases List.mem_append.1 he' with h | h
        · exact ⟨e, h, h3, h4⟩
        · have h : e = es[i] := by simpa using h
          subst h
          exact absurd (by omega) eb
      · rintro ⟨e, he', h⟩
        exact ⟨e, List.mem_append_left _ he', h⟩
    simp only [this]

theorem distI_no {n : Nat} {es : Es} (hes : inR n es) {a : Int} (ha : 0 ≤ a ∧ a < n) {s i : Nat} (hi : i < es.length) (h : ¬ (distI n es a s i es[i].1.toNat = s ∧ distI n es a s i es[i].2.toNat < 0)) :
    distI n es a s (i + 1) = distI n es a s i := by
  have he := List.getElem_mem hi
  obtain ⟨r1, r2⟩ := hes _ he
  have e1 : ((es[i].1.toNat : Nat) : Int) = es[i].1 := by omega
  have e2 : ((es[i].2.toNat : Nat) : Int) = es[i].2 := by omega
  funext b
  unfold distI
  by_cases hb : dist n es a (b : Int) ≤ s
  · rw [if_pos hb, if_pos hb]
  rw [if_neg hb, if_neg hb]
  have key : (dist n es a (b : Int) = s + 1 ∧ ∃ e ∈ es.take (i + 1), e.2 = (b : Int) ∧ dist n es a e.1 = s) ↔ (dist n es a (b : Int) = s + 1 ∧ ∃ e ∈ es.take i, e.2 = (b : Int) ∧ dist n es a e.1 = s) := by
    rw [List.take_succ_eq_append_getElem hi]
    constructor
    · rintro ⟨h1, e, he', h3, h4⟩
      refine ⟨h1, ?_⟩
      rcases List.mem_append.1 he' with h5 | h5
      · exact ⟨e, h5, h3, h4⟩
      · have h5 : e = es[i] := by simpa using h5
        subst h5
        -- known already: else the edge would lead on
        have hb2 : es[i].2.toNat = b := by omega
        have h6 : distI n es a s i es[i].1.toNat = s := by
          unfold distI; rw [e1, h4, if_pos (Int.le_refl _)]
        have h7 : ¬ distI n es a s i es[i].2.toNat < 0 := fun h8 => h ⟨h6, h8⟩
        rw [hb2] at h7
        unfold distI at h7
        rw [if_neg hb] at h7
        split at h7
        · rename_i h8; exact h8.2
        · omega
    · rintro ⟨h1, e, he', h3⟩
      exact ⟨h1, e, List.mem_append_left _ he', h3⟩
  by_cases h9 : (dist n es a (b : Int) = s + 1 ∧ ∃ e ∈ es.take i, e.2 = (b : Int) ∧ dist n es a e.1 = s)
  · rw [if_pos h9, if_pos (key.2 h9)]
  · rw [if_neg h9, if_neg (fun h => h9 (key.1 h))]

def tableL (n : Nat) (es : Es) : List (List Int) := (List.range n).map fun (a : Nat) => (List.range n).map fun (b : Nat) => dist n es (a : Int) (b : Int)
end Go.Fx.Gr

namespace Go.Fx
open Go.Proofs Gr
set_option maxRecDepth 100000

set_option maxHeartbeats 4000000 in
theorem ct79 (n : Nat) (hn : n ≤ 64) (es : Es) (hes : inR n es) (hl : es.length ≤ 1000000) : Ct Try.prog 79 [rA n es] (.row (tableR (tableL n es))) := by
  refine ct_of tyAll Try.func79 (by decide) rfl ?_
  conv => whnf
  refine ⟨Nat × List (List Int), fun i => i.1 ≤ n ∧ i.2 = (tableL n es).take i.1, fun i => ⟨(sk 1 (.p (.one (.lptr 1 0)) :: (sk 1 (W 100 0 :: (sk 0 (I i.1 :: (sk 76 []))))))), [(1, [.c (i64 n), .c (prs es)])], [(100, (0, tableR i.2))]⟩, fun i => n - i.1, (0, []), ⟨by simp, rfl⟩, ?_, fun i hi => ?_⟩
  · repeat' (first | exact trivial | exact rfl | refine And.intro ?_ ?_)
  obtain ⟨a, out⟩ := i
  obtain ⟨ha, hout⟩ := hi
  simp only at ha hout
  have htl : (tableL n es).length = n := by simp [tableL]
  have hol : out.length ≤ n := by rw [hout]; simp; omega
  conv => whnf
  refine acond_split (fun h1 => ?_) (fun h1 => ?_)
  · have h1 := dec h1
    conv => whnf
    have hlt : a < n := by omega
    have har : 0 ≤ (a : Int) ∧ (a : Int) < n := by omega
    refine ⟨rfl, by omega, by omega, by omega, by omega, Int, fun n _ => i64 n, 0, zok1 (fun _ _ => rfl), ?_⟩
    conv => whnf
    refine ⟨Nat × (Nat → Int), fun i => i.1 ≤ n ∧ ∀ b, b < n → i.2 b = if b < i.1 then -1 else 0, fun i => ⟨(sk 1 (.p (.one (.lptr 1 0)) :: (sk 1 (W 100 0 :: (sk 0 (I a :: (sk 0 (W 17 0 :: (sk 0 (I i.1 :: (sk 74 []))))))))))), [(1, [.c (i64 n), .c (prs es)])], [(100, (0, tableR out)), (17, (0, intsR (tb n i.2)))]⟩, fun i => n - i.1, (0, fun _ => 0), ⟨by simp, by simp⟩, ?_, fun i hi => ?_⟩
    · repeat' (first | exact trivial | exact rfl | refine And.intro ?_ ?_)
      show intsR (List.replicate _ (0 : Int)) = intsR _
      simp [tb, List.map_const']
    obtain ⟨k, f⟩ := i
    obtain ⟨hk, hf⟩ := hi
    simp only at hk hf
    simp only [awp]
    conv => whnf
    refine acond_split (fun h2 => ?_) (fun h2 => ?_)
    · have h2 := dec h2
      conv => whnf
      have hklt : k < n := by omega
      refine ⟨by omega, by simp; omega, ?_⟩
      conv => whnf
      refine ⟨_, (-1 : Int), tb_get (by omega), rfl, ?_⟩
      conv => whnf
      refine ⟨_, wi _ (by omega) (by omega), ?_⟩
      conv => whnf
      refine ⟨(k + 1, fun b => if b = k then -1 else f b), ⟨by simp only; omega, fun b hb => ?_⟩, by show n - (k + 1) < n - k; omega, ?_⟩
      · simp only
        by_cases e : b = k
        · rw [if_pos e, if_pos (show b < k + 1 by omega)]
        · rw [if_neg e, hf b hb]
          by_cases e2 : b < k
          · rw [if_pos e2, if_pos (show b < k + 1 by omega)]
          · rw [if_neg e2, if_neg (show ¬ b < k + 1 by omega)]
      · repeat' (first | exact trivial | exact rfl | refine And.intro ?_ ?_)
        show intsR (List.set _ _ (-1)) = intsR _
        rw [map_set]
        simp only [Int.toNat_natCast]
    have h2 := ndec h2
    conv => whnf
    have hk' : k = n := by omega
    subst hk'
    refine ⟨by omega, by simp; omega, ?_⟩
    conv => whnf
    refine ⟨_, (0 : Int), tb_get (by omega), rfl, ?_⟩
    conv => whnf
    refine ⟨Nat × (Nat → Int), fun i => i.1 ≤ k ∧ ∀ b, b < k → i.2 b = distU k es a i.1 b, fun i => ⟨(sk 1 (.p (.one (.lptr 1 0)) :: (sk 1 (W 100 0 :: (sk 0 (I a :: (sk 0 (W 17 0 :: (sk 1 (I (i.1 + 1) :: (sk 73 []))))))))))), [(1, [.c (i64 k), .c (prs es)])], [(100, (0, tableR out)), (17, (0, intsR (tb k i.2)))]⟩, fun i => k - i.1, (0, fun b => if b = a then 0 else f b), ⟨by simp, fun b hb => ?_⟩, ?_, fun i hi => ?_⟩
    · simp only
      rw [distU_start hes har, hf b hb, if_pos hb]
      by_cases e : b = a
      · rw [if_pos e, if_pos (by omega)]
      · rw [if_neg e, if_neg (by omega)]
    · repeat' (first | exact trivial | exact rfl | refine And.intro ?_ ?_)
      show intsR (List.set _ _ (0 : Int)) = intsR _
      rw [map_set]
      simp only [Int.toNat_natCast]
    clear hf
    obtain ⟨s, f⟩ := i
    obtain ⟨hs, hf⟩ := hi
    simp only at hs hf
    simp only [awp]
    conv => whnf
    refine acond_split (fun h3 => ?_) (fun h3 => ?_)
    · have h3 := dec h3
      conv => whnf
      have hslt : s < k := by omega
      refine ⟨Nat × (Nat → Int), fun i => i.1 ≤ es.length ∧ ∀ b, b < k → i.2 b = distI k es a s i.1 b, fun i => ⟨(sk 1 (.p (.one (.lptr 1 0)) :: (sk 1 (W 100 0 :: (sk 0 (I a :: (sk 0 (W 17 0 :: (sk 1 (I (s + 1) :: (sk 0 (I i.1 :: (sk 72 []))))))))))))), [(1, [.c (i64 k), .c (prs es)])], [(100, (0, tableR out)), (17, (0, intsR (tb k i.2)))]⟩, fun i => es.length - i.1, (0, f), ⟨by simp, fun b hb => by simp only; rw [hf b hb, distI_zero]⟩, ?_, fun i hi => ?_⟩
      · repeat' (first | exact trivial | exact rfl | refine And.intro ?_ ?_)
      clear hf
      obtain ⟨i, f⟩ := i
      obtain ⟨hi, hf⟩ := hi
      simp only at hi hf
      simp only [awp]
      conv => whnf
      intro _
      conv => whnf
      refine acond_split (fun h4 => ?_) (fun h4 => ?_)
      · have h4 := dec h4
        conv => whnf
        have hilt : i < es.length := by omega
        obtain ⟨⟨a0, a1⟩, b0, b1⟩ := hes es[i] (List.getElem_mem hilt)
        refine ⟨es[i], by omega, List.getElem?_eq_getElem hilt, ?_⟩
        conv => whnf
        refine ⟨by omega, by omega, ?_⟩
        conv => whnf
        refine ⟨a0, (by simp; omega), ?_⟩
        conv => whnf
        refine ⟨_, tb_get (by omega), ?_⟩
        conv => whnf
        refine ⟨(s : Int), by rw [wi _ (by omega) (by omega)]; omega, ?_⟩
        conv => whnf
        have d1 := hf es[i].1.toNat (by omega)
        have d2 := hf es[i].2.toNat (by omega)
        refine acond_split (fun h5 => ?_) (fun h5 => ?_)
        · have h5 : f es[i].1.toNat = s := of_decide_eq_true h5
          conv => whnf
          refine ⟨es[i], by omega, List.getElem?_eq_getElem hilt, ?_⟩
          conv => whnf
          refine ⟨by omega, by omega, ?_⟩
          conv => whnf
          refine ⟨b0, (by simp; omega), ?_⟩
          conv => whnf
          refine ⟨_, tb_get (by omega), ?_⟩
          conv => whnf
          refine acond_split (fun h6 => ?_) (fun h6 => ?_)
          · have h6 : f es[i].2.toNat < 0 := of_decide_eq_true h6
            conv => whnf
            refine ⟨es[i], by omega, List.getElem?_eq_getElem hilt, ?_⟩
            conv => whnf
            refine ⟨by omega, by omega, ?_⟩
            conv => whnf
            refine ⟨b0, (by simp; omega), ?_⟩
            conv => whnf
            refine ⟨_, (s : Int) + 1, tb_get (by omega), rfl, ?_⟩
            conv => whnf
            refine ⟨_, wi _ (by omega) (by omega), ?_⟩
            conv => whnf
            refine ⟨(i + 1, fun b => if b = es[i].2.toNat then (s : Int) + 1 else f b), ⟨by simp only; omega, fun b hb => ?_⟩, by show es.length - (i + 1) < es.length - i; omega, ?_⟩
            · simp only
              rw [distI_yes hes har hilt (by rw [← d1]; exact h5) (by rw [← d2]; exact h6)]
              simp only
              split
              · rfl
              · exact hf b hb
            · repeat' (first | exact trivial | exact rfl | refine And.intro ?_ ?_)
              show intsR (List.set _ _ _) = intsR _
              rw [map_set]
          · have h6 : ¬ f es[i].2.toNat < 0 := of_decide_eq_false h6
            conv => whnf
            refine ⟨_, wi _ (by omega) (by omega), ?_⟩
            conv => whnf
            refine ⟨(i + 1, f), ⟨by simp only; omega, fun b hb => ?_⟩, by show es.length - (i + 1) < es.length - i; omega, ?_⟩
            · simp only
              rw [hf b hb, distI_no hes har hilt fun h => h6 (by rw [d2]; exact h.2)]
            · repeat' (first | exact trivial | exact rfl | refine And.intro ?_ ?_)
        · have h5 : ¬ f es[i].1.toNat = s := of_decide_eq_false h5
          conv => whnf
          refine ⟨_, wi _ (by omega) (by omega), ?_⟩
          conv => whnf
          refine ⟨(i + 1, f), ⟨by simp only; omega, fun b hb => ?_⟩, by show es.length - (i + 1) < es.length - i; omega, ?_⟩
          · simp only
            rw [hf b hb, distI_no hes har hilt fun h => h5 (by rw [d1]; exact h.1)]
          · repeat' (first | exact trivial | exact rfl | refine And.intro ?_ ?_)
      · have h4 := ndec h4
        conv => whnf
        have hi' : i = es.length := by omega
        subst hi'
        refine ⟨_, wi _ (by omega) (by omega), ?_⟩
        conv => whnf
        refine ⟨(s + 1, f), ⟨by simp only; omega, fun b hb => by simp only; rw [hf b hb, distI_all hes har]⟩, by show k - (s + 1) < k - s; omega, ?_⟩
        repeat' (first | exact trivial | exact rfl | refine And.intro ?_ ?_)
    · have h3 := ndec h3
      conv => whnf
      have hs' : s = k := by omega
      subst hs'
      refine ⟨List Int, fun r _ => ints r, [tb s f], rfl, by decide, rfl, ?_⟩
      conv => whnf
      refine ⟨[tb s f], rfl, by simp; omega, by simp; omega, ?_⟩
      conv => whnf
      refine ⟨_, wi _ (by omega) (by omega), ?_⟩
      conv => whnf
      have hrow : tb s f = (tableL s es)[a]'(by omega) := by
        simp only [tableL, List.getElem_map, List.getElem_range]
        exact List.map_congr_left fun b hb => by rw [hf b (List.mem_range.1 hb), distU_end hes har]
      refine ⟨(a + 1, out ++ [tb s f]), ⟨by simp only; omega, ?_⟩, by show s - (a + 1) < s - a; omega, ?_⟩
      · simp only
        rw [hout, hrow, List.take_succ_eq_append_getElem]
      · repeat' (first | exact trivial | exact rfl | refine And.intro ?_ ?_)
  · have h1 := ndec h1
    conv => whnf
    have ha' : a = n := by omega
    subst ha'
    refine ⟨?_, trivial⟩
    show tableR (tableL a es) = tableR out
    rw [hout, List.take_of_length_le (by omega)]
end Go.Fx

namespace Go.Fx.Gr
open Go.Fx

def stepV (n : Nat) (es : Es) (b a : Int) (s : Int) : Int := match (List.range n).find? fun (v : Nat) => decide ((a, (v : Int)) ∈ es) && decide (dist n es (v : Int) b = s) with
  | some v => (v : Int)
  | none => a
def walkL (n : Nat) (es : Es) (b : Int) : Nat → Int → List Int
  | 0, a => [a]
  | s + 1, a => a :: walkL n es b s (stepV n es b a s)

theorem walkL_length (n : Nat) (es : Es) (b : Int) : ∀ s a, (walkL n es b s a).length = s + 1
  | 0, a => rfl
  | s + 1, a => by rw [walkL, List.length_cons, walkL_length n es b s]

theorem next_is_step (n : Nat) (es : Es) (b a : Int) (s : Int) (h : dist n es a b - 1 = s) : nextV n es b a = stepV n es b a s := by
  unfold nextV stepV adjL
  rw [h, List.find?_map, List.find?_filter]
  have e : (List.range n).find? (fun (a_1 : Nat) => decide ((a, (a_1 : Int)) ∈ es) && ((fun v => decide (dist n es v b = s)) ∘ fun (v : Nat) => (v : Int)) a_1) = (List.range n).find? fun (v : Nat) => decide ((a, (v : Int)) ∈ es) && decide (dist n es (v : Int) b = s) := rfl
  have e2 : ∀ (x y : Option Nat), x = y → (Option.map (fun (v : Nat) => (v : Int)) x).getD a = match y with
      | some v => (v : Int)
      | none => a := fun x y h => by subst h; cases x <;> rfl
  refine e2 _ _ ?_
  congr 1
  funext v
  simp [Function.comp]

theorem walk_is_path {n : Nat} {es : Es} (hes : inR n es) {b : Int} : ∀ {d : Nat} {a : Int}, 0 ≤ a ∧ a < n → dist n es a b = d → walkL n es b d a = pathD n es b d a
  | 0, a, _, _ => rfl
  | d + 1, a, ha, hd => by
    have hne : a ≠ b := fun e => by rw [e, dist_self hes (by rw [← e]; exact ha)] at hd; omega
    obtain ⟨v, hv⟩ := next_some hes ha (by omega) hne
    obtain ⟨h1, h2, h3, h4⟩ := next_step hv
    rw [walkL, pathD, ← next_is_step n es b a d (by omega), h1]
    rw [walk_is_path hes h3 (by omega)]

/-- What a table of distances is. -/
def IsTab (n : Nat) (es : Es) (T : List (List Int)) : Prop := T.length = n ∧ ∀ v, (h : v < T.length) → T[v].length = n ∧ ∀ b : Nat, b < n → T[v][b]? = some (dist n es (v : Int) (b : Int))
theorem tableL_is (n : Nat) (es : Es) : IsTab n es (tableL n es) := by
  refine ⟨by simp [tableL], fun v h => ?_⟩
  simp only [tableL, List.getElem_map, List.getElem_range]
  refine ⟨by simp, fun b hb => by simp [hb]⟩
end Go.Fx.Gr

namespace Go.Fx
open Go.Proofs Gr
set_option maxRecDepth 100000

set_option maxHeartbeats 1000000 in
theorem ct80 (n : Nat) (hn : n ≤ 64) (es : Es) (T : List (List Int)) (hT : IsTab n es T) (a b : Int) (hb : 0 ≤ b ∧ b < (n : Int)) (s : Nat) (hs : s ≤ 1000) :
    Ct Try.prog 80 [rA n es, .one (table T), .one (i64 a), .one (i64 b), .one (i64 s)] (.row (intsR (walkL n es b s a))) := by
  refine ct_of tyAll Try.func80 (by decide) rfl ?_
  obtain ⟨hTl, hTr⟩ := hT
  conv => whnf
  refine ⟨Int, fun n _ => i64 n, [a], rfl, by decide, rfl, ?_⟩
  conv => whnf
  refine ⟨_, wi _ (by omega) (by omega), ?_⟩
  conv => whnf
  refine ⟨Nat × Int × List Int, fun i => i.1 ≤ s ∧ i.2.2 ++ walkL n es b (s - i.1) i.2.1 = walkL n es b s a, fun i => ⟨(sk 1 (.c (table T) :: (sk 0 (I i.2.1 :: (sk 0 (I b :: (sk 1 (.p (.one (.lptr 5 0)) :: (sk 5 (W 15 0 :: (sk 0 (I (s - i.1 - 1 : Int) :: (sk 36 []))))))))))))), [(5, [.c (i64 n), .c (prs es)])], [(15, (0, intsR (i.2.2 ++ [i.2.1])))]⟩, fun i => s - i.1, (0, a, []), ⟨by simp, by simp⟩, ?_, fun i hi => ?_⟩
  · repeat' (first | exact trivial | exact rfl | refine And.intro ?_ ?_)
  obtain ⟨k, c, pre⟩ := i
  obtain ⟨hk, hp⟩ := hi
  simp only at hk hp
  simp only [awp]
  conv => whnf
  refine acond_split (fun h1 => ?_) (fun h1 => ?_)
  · have h1 : (0 : Int) ≤ (s : Int) - k - 1 := of_decide_eq_true h1
    obtain ⟨m, hm⟩ : ∃ m, s - k = m + 1 := ⟨s - k - 1, by omega⟩
    have hm2 : (s : Int) - k - 1 = m := by omega
    rw [hm, walkL] at hp
    have hpl := congrArg List.length hp
    rw [List.length_append, List.length_cons, walkL_length, walkL_length] at hpl
    conv => whnf
    refine ⟨Nat, fun v => v ≤ n ∧ ∀ u : Nat, u < v → ¬ ((c, (u : Int)) ∈ es ∧ dist n es (u : Int) b = m), fun v => ⟨(sk 1 (.c (table T) :: (sk 0 (I c :: (sk 0 (I b :: (sk 1 (.p (.one (.lptr 5 0)) :: (sk 5 (W 15 0 :: (sk 0 (I (s - k - 1 : Int) :: (sk 0 (I v :: (sk 35 []))))))))))))))), [(5, [.c (i64 n), .c (prs es)])], [(15, (0, intsR (pre ++ [c])))]⟩, fun v => n - v, 0, ⟨by omega, fun u h => by omega⟩, ?_, fun v hv => ?_⟩
    · repeat' (first | exact trivial | exact rfl | refine And.intro ?_ ?_)
    obtain ⟨hv, hn0⟩ := hv
    simp only [awp]
    conv => whnf
    refine acond_split (fun h2 => ?_) (fun h2 => ?_)
    · have h2 := dec h2
      conv => whnf
      have hvlt : v < n := by omega
      refine ⟨_, ct75 n es c v, ?_⟩
      conv => whnf
      refine acond_split (fun h3 => ?_) (fun h3 => ?_)
      · have h3 : (c, (v : Int)) ∈ es := of_decide_eq_true h3
        have hvT : v < T.length := by omega
        obtain ⟨hrl, hrow⟩ := hTr v hvT
        conv => whnf
        refine ⟨T[v], by omega, List.getElem?_eq_getElem hvT, ?_⟩
        conv => whnf
        refine ⟨dist n es v b, hb.1, (by show T[v][b.toNat]? = _; rw [hrow b.toNat (by omega), show ((b.toNat : Nat) : Int) = b by omega]), ?_⟩
        conv => whnf
        refine acond_split (fun h4 => ?_) (fun h4 => ?_)
        · have h4 : dist n es v b = m := by have h4 := of_decide_eq_true h4; omega
          have hst : stepV n es b c m = v := by
            unfold stepV
            have : (List.range n).find? (fun (v : Nat) => decide ((c, (v : Int)) ∈ es) && decide (dist n es (v : Int) b = m)) = some v := by
              rw [List.find?_range_eq_some]
              refine ⟨by simp [h3, h4], List.mem_range.2 hvlt, fun u hu => ?_⟩
              have := hn0 u hu
              simp only [Bool.not_eq_true', Bool.and_eq_false_iff, decide_eq_false_iff_not]
              by_cases h5 : (c, (u : Int)) ∈ es
              · exact .inr fun h6 => this ⟨h5, h6⟩
              · exact .inl h5
            rw [this]
          conv => whnf
          refine ⟨Int, fun n _ => i64 n, [(v : Int)], rfl, by decide, rfl, ?_⟩
          conv => whnf
          refine ⟨[(v : Int)], rfl, by simp; omega, by simp; omega, ?_⟩
          conv => whnf
          refine ⟨_, wi _ (by omega) (by omega), ?_⟩
          conv => whnf
          refine ⟨(k + 1, (v : Int), pre ++ [c]), ⟨by simp only; omega, ?_⟩, by show s - (k + 1) < s - k; omega, ?_⟩
          · simp only
            rw [show s - (k + 1) = m by omega, List.append_assoc, ← hp, hst]
            rfl
          · repeat' (first | exact trivial | exact rfl | refine And.intro ?_ ?_)
            show i64 ((s : Int) - k - 1 - 1) = i64 ((s : Int) - ((k + 1 : Nat) : Int) - 1)
            congr 1
            omega
        · have h4 : dist n es v b ≠ m := by have h4 := of_decide_eq_false h4; omega
          conv => whnf
          refine ⟨_, wi _ (by omega) (by omega), ?_⟩
          conv => whnf
          refine ⟨v + 1, ⟨by omega, fun u hu => ?_⟩, by show n - (v + 1) < n - v; omega, ?_⟩
          · rcases Nat.lt_or_ge u v with h | h
            · exact hn0 u h
            · obtain rfl : u = v := by omega
              exact fun h5 => h4 h5.2
          · repeat' (first | exact trivial | exact rfl | refine And.intro ?_ ?_)
      · have h3 : ¬ (c, (v : Int)) ∈ es := of_decide_eq_false h3
        conv => whnf
        refine ⟨_, wi _ (by omega) (by omega), ?_⟩
        conv => whnf
        refine ⟨v + 1, ⟨by omega, fun u hu => ?_⟩, by show n - (v + 1) < n - v; omega, ?_⟩
        · rcases Nat.lt_or_ge u v with h | h
          · exact hn0 u h
          · obtain rfl : u = v := by omega
            exact fun h5 => h3 h5.1
        · repeat' (first | exact trivial | exact rfl | refine And.intro ?_ ?_)
    · have h2 := ndec h2
      conv => whnf
      have hvn : v = n := by omega
      have hst : stepV n es b c m = c := by
        unfold stepV
        have : (List.range n).find? (fun (v : Nat) => decide ((c, (v : Int)) ∈ es) && decide (dist n es (v : Int) b = m)) = none := by
          rw [List.find?_eq_none]
          intro u hu
          have := hn0 u (by have := List.mem_range.1 hu; omega)
          simpa using this
        rw [this]
      refine ⟨Int, fun n _ => i64 n, [c], rfl, by decide, rfl, ?_⟩
      conv => whnf
      refine ⟨[c], rfl, by simp; omega, by simp; omega, ?_⟩
      conv => whnf
      refine ⟨_, wi _ (by omega) (by omega), ?_⟩
      conv => whnf
      refine ⟨(k + 1, c, pre ++ [c]), ⟨by simp only; omega, ?_⟩, by show s - (k + 1) < s - k; omega, ?_⟩
      · simp only
        rw [show s - (k + 1) = m by omega, List.append_assoc, ← hp, hst]
        rfl
      · repeat' (first | exact trivial | exact rfl | refine And.intro ?_ ?_)
        show i64 ((s : Int) - k - 1 - 1) = i64 ((s : Int) - ((k + 1 : Nat) : Int) - 1)
        congr 1
        omega
  · have h1 : ¬ (0 : Int) ≤ (s : Int) - k - 1 := of_decide_eq_false h1
    have hks : s - k = 0 := by omega
    rw [hks, walkL] at hp
    conv => whnf
    refine ⟨?_, trivial⟩
    show intsR _ = intsR (pre ++ [c])
    rw [hp]
end Go.Fx

namespace Go.Fx
open Go.Proofs Gr
set_option maxRecDepth 100000

def rpathRv (n : Nat) (es : Es) (a b : Int) : Rv := if dist n es a b < 0 then .tup [.one (.c .nil), .one (.c (i64 10))] else .tup [.one (.row 0 (intsR (pathL n es a b))), .one (.c (i64 0))]

set_option maxHeartbeats 1000000 in
theorem ct25 (n : Nat) (hn : n ≤ 64) (es : Es) (hes : inR n es) (hl : es.length ≤ 1000000) (a b : Int) (ha : 0 ≤ a ∧ a < (n : Int)) (hb : 0 ≤ b ∧ b < (n : Int)) :
    Ct Try.prog 25 [rA n es, .one (i64 a), .one (i64 b)] (rpathRv n es a b) := by
  refine ct_of tyAll Try.func25 (by decide) rfl ?_
  obtain ⟨T, hT⟩ : ∃ T, T = tableL n es := ⟨_, rfl⟩
  have hI : IsTab n es T := by rw [hT]; exact tableL_is n es
  have h79 := ct79 n hn es hes hl
  rw [← hT] at h79
  obtain ⟨hTl, hTr⟩ := id hI
  have haT : a.toNat < T.length := by omega
  obtain ⟨hrl, hrow⟩ := hTr a.toNat haT
  have hget : T[a.toNat][b.toNat]? = some (dist n es a b) := by
    rw [hrow b.toNat (by omega), show ((a.toNat : Nat) : Int) = a by omega, show ((b.toNat : Nat) : Int) = b by omega]
  obtain ⟨row, hrw⟩ : ∃ row, row = T[a.toNat] := ⟨_, rfl⟩
  have hTa : T[a.toNat]? = some row := by rw [hrw]; exact List.getElem?_eq_getElem haT
  rw [← hrw] at hget
  clear hT hrow hrl
  conv => whnf
  refine ⟨_, h79, ?_⟩
  conv => whnf
  refine ⟨ha.1, (by show a < (T.length : Int); omega), ?_⟩
  conv => whnf
  refine ⟨_, hTa, ?_⟩
  conv => whnf
  refine ⟨dist n es a b, hb.1, hget, ?_⟩
  conv => whnf
  have hdb := dist_bound (b := b) hes ha
  refine acond_split (fun h1 => ?_) (fun h1 => ?_)
  · have h1 := dec h1
    conv => whnf
    rw [rpathRv, if_pos h1]
    conv => whnf
    repeat' (first | exact trivial | exact rfl | refine And.intro ?_ ?_)
  · have h1 := ndec h1
    conv => whnf
    rw [rpathRv, if_neg h1]
    obtain ⟨d, hd⟩ : ∃ d : Nat, dist n es a b = d := ⟨(dist n es a b).toNat, by omega⟩
    have hw := ct80 n hn es T hI a b hb d (by omega)
    rw [walk_is_path hes ha hd] at hw
    have hpl : pathL n es a b = pathD n es b d a := by unfold pathL; rw [hd]; rfl
    rw [hpl]
    refine draw_intro tyAll mixed 14 (by kernel_rfl) ?_
    conv => whnf
    refine ⟨ha.1, (by show a < (T.length : Int); omega), ?_⟩
    conv => whnf
    refine ⟨_, hTa, ?_⟩
    conv => whnf
    refine ⟨(d : Int), hb.1, (by rw [← hd]; exact hget), ?_⟩
    conv => whnf
    refine ⟨_, hw, .inl (fun x i => flat_int _ _), ?_⟩
    conv => whnf
    repeat' (first | exact trivial | exact rfl | refine And.intro ?_ ?_)

end Go.Fx

namespace Go.Fx
open Go.Proofs Gr
set_option maxRecDepth 100000

def rtreeL (n : Nat) (f : Int → Int) : List Int := tb n fun v => f v

set_option maxHeartbeats 1000000 in
theorem ct30 (n : Nat) (hn : n ≤ 64) (es : Es) (hes : inR n es) (hl : es.length ≤ 1000000) (root : Int) (hr : 0 ≤ root ∧ root < (n : Int)) :
    Ct Try.prog 30 [rA n es, .one (i64 root)] (.row (intsR (rtreeL n fun v => lastB (pathO n es root v)))) := by
  refine ct_of tyAll Try.func30 (by decide) rfl ?_
  conv => whnf
  refine ⟨rfl, by omega, by omega, by omega, by omega, Int, fun n _ => i64 n, 0, zok1 (fun _ _ => rfl), ?_⟩
  conv => whnf
  refine ⟨Nat × (Nat → Int), fun i => i.1 ≤ n ∧ ∀ b, b < i.1 → i.2 b = lastB (pathO n es root b), fun i => ⟨(sk 1 (I root :: (sk 0 (.p (.one (.lptr 2 0)) :: (sk 2 (W 11 0 :: (sk 0 (I i.1 :: (sk 38 []))))))))), [(2, [.c (i64 n), .c (prs es)])], [(11, (0, intsR (tb n i.2)))]⟩, fun i => n - i.1, (0, fun _ => 0), ⟨by simp, fun b h => by simp at h⟩, ?_, fun i hi => ?_⟩
  · repeat' (first | exact trivial | exact rfl | refine And.intro ?_ ?_)
    show intsR (List.replicate _ (0 : Int)) = intsR _
    simp [tb, List.map_const']
  obtain ⟨k, f⟩ := i
  obtain ⟨hk, hf⟩ := hi
  simp only at hk hf
  simp only [awp]
  conv => whnf
  refine acond_split (fun h1 => ?_) (fun h1 => ?_)
  · have h1 := dec h1
    conv => whnf
    have hlt : k < n := by omega
    refine ⟨by omega, by simp; omega, ?_⟩
    simp only [addObj, setFr, forceA, setK, forceS, forceL]
    unfold seqops
    simp only [wguard, wstep, opd, fget, ownsA, relAll]
    unfold wstore
    simp only [opd, fget, lget]
    conv => whnf
    refine ⟨_, (-1 : Int), tb_get (by omega), rfl, ?_⟩
    conv => whnf
    have hp := ct25 n hn es hes hl root k hr ⟨by omega, by omega⟩
    unfold rpathRv at hp
    by_cases hd : dist n es root k < 0
    · rw [if_pos hd] at hp
      refine ⟨_, hp, ?_⟩
      conv => whnf
      refine ⟨_, wi _ (by omega) (by omega), ?_⟩
      conv => whnf
      refine ⟨(k + 1, fun b => if b = k then -1 else f b), ⟨by simp only; omega, fun b hb => ?_⟩, by show n - (k + 1) < n - k; omega, ?_⟩
      · simp only
        by_cases e : b = k
        · rw [if_pos e, e]
          unfold pathO
          rw [if_pos hd]
          rfl
        · rw [if_neg e]; exact hf b (by simp only at hb; omega)
      · repeat' (first | exact trivial | exact rfl | refine And.intro ?_ ?_)
        show intsR (List.set _ _ (-1)) = intsR _
        rw [map_set]
        simp only [Int.toNat_natCast]
    · rw [if_neg hd] at hp
      obtain ⟨pl, hpl⟩ : ∃ pl, pl = pathL n es root k := ⟨_, rfl⟩
      have hpo : pathO n es root k = pl := by unfold pathO; rw [if_neg hd, hpl]
      have hpb := pathL_length (b := (k : Int)) hes hr
      rw [← hpl] at hp hpb
      refine ⟨_, hp, ?_⟩
      conv => whnf
      intro _
      conv => whnf
      refine acond_split (fun h2 => ?_) (fun h2 => ?_)
      · have h2 : (1 : Int) < (pl.length : Int) := of_decide_eq_true h2
        conv => whnf
        intro _
        conv => whnf
        refine ⟨(pl.length - 2 : Nat), by show IntKind.i64.wrap ((pl.length : Int) - 2) = _; rw [wi _ (by omega) (by omega)]; omega, ?_⟩
        conv => whnf
        have hl2 : pl.length - 2 < pl.length := by omega
        refine ⟨by omega, by show ((pl.length - 2 : Nat) : Int) < (pl.length : Int); omega, ?_⟩
        conv => whnf
        refine ⟨_, List.getElem?_eq_getElem hl2, ?_⟩
        conv => whnf
        refine ⟨by omega, by simp; omega, ?_⟩
        simp only [addObj, setFr, forceA, setK, forceS, forceL]
        unfold seqops
        simp only [wguard, wstep, opd, fget, ownsA, relAll]
        unfold wstore
        simp only [opd, fget, lget]
        conv => whnf
        refine ⟨(-1 : Int), pl[pl.length - 2], (by show (List.set _ _ _)[_]? = _; rw [map_set, tb_get (by omega), if_pos rfl]), rfl, ?_⟩
        conv => whnf
        refine ⟨_, wi _ (by omega) (by omega), ?_⟩
        conv => whnf
        refine ⟨(k + 1, fun b => if b = k then pl[pl.length - 2] else f b), ⟨by simp only; omega, fun b hb => ?_⟩, by show n - (k + 1) < n - k; omega, ?_⟩
        · simp only
          by_cases e : b = k
          · rw [if_pos e, e, hpo, lastB, if_neg (by omega)]
            simp [List.getD, hl2]
          · rw [if_neg e]; exact hf b (by simp only at hb; omega)
        · repeat' (first | exact trivial | exact rfl | refine And.intro ?_ ?_)
          show intsR (List.set (List.set _ _ _) _ _) = intsR _
          rw [map_set, map_set]
          congr 1
          refine List.map_congr_left fun b hb => ?_
          simp only [Int.toNat_natCast]
          by_cases e : b = k
          · rw [if_pos e, if_pos e]
          · rw [if_neg e, if_neg e, if_neg e]
      · have h2 : ¬ (1 : Int) < (pl.length : Int) := of_decide_eq_false h2
        conv => whnf
        refine ⟨_, wi _ (by omega) (by omega), ?_⟩
        conv => whnf
        refine ⟨(k + 1, fun b => if b = k then -1 else f b), ⟨by simp only; omega, fun b hb => ?_⟩, by show n - (k + 1) < n - k; omega, ?_⟩
        · simp only
          by_cases e : b = k
          · rw [if_pos e, e, hpo, lastB, if_pos (by omega)]
          · rw [if_neg e]; exact hf b (by simp only at hb; omega)
        · repeat' (first | exact trivial | exact rfl | refine And.intro ?_ ?_)
          show intsR (List.set _ _ (-1)) = intsR _
          rw [map_set]
          simp only [Int.toNat_natCast]
  · have h1 := ndec h1
    conv => whnf
    have hk' : k = n := by omega
    subst hk'
    refine ⟨?_, trivial⟩
    show intsR (rtreeL k _) = intsR (tb k f)
    congr 1
    exact List.map_congr_left fun b hb => (hf b (List.mem_range.1 hb)).symm
end Go.Fx

namespace Go.Fx
open Go.Proofs Gr
set_option maxRecDepth 100000

set_option maxHeartbeats 1000000 in
theorem ct31 (n : Nat) (hn : n ≤ 64) (es : Es) (hes : inR n es) (hl : es.length ≤ 1000000) (root : Int) (hr : 0 ≤ root ∧ root < (n : Int)) :
    Ct Try.prog 31 [rA n es, .one (i64 root)] (.row (intsR (rtreeL n fun v => sndB (pathO n es v root)))) := by
  refine ct_of tyAll Try.func31 (by decide) rfl ?_
  conv => whnf
  refine ⟨rfl, by omega, by omega, by omega, by omega, Int, fun n _ => i64 n, 0, zok1 (fun _ _ => rfl), ?_⟩
  conv => whnf
  refine ⟨Nat × (Nat → Int), fun i => i.1 ≤ n ∧ ∀ b, b < i.1 → i.2 b = sndB (pathO n es b root), fun i => ⟨(sk 1 (I root :: (sk 0 (.p (.one (.lptr 2 0)) :: (sk 2 (W 11 0 :: (sk 0 (I i.1 :: (sk 35 []))))))))), [(2, [.c (i64 n), .c (prs es)])], [(11, (0, intsR (tb n i.2)))]⟩, fun i => n - i.1, (0, fun _ => 0), ⟨by simp, fun b h => by simp at h⟩, ?_, fun i hi => ?_⟩
  · repeat' (first | exact trivial | exact rfl | refine And.intro ?_ ?_)
    show intsR (List.replicate _ (0 : Int)) = intsR _
    simp [tb, List.map_const']
  obtain ⟨k, f⟩ := i
  obtain ⟨hk, hf⟩ := hi
  simp only at hk hf
  simp only [awp]
  conv => whnf
  refine acond_split (fun h1 => ?_) (fun h1 => ?_)
  · have h1 := dec h1
    conv => whnf
    have hlt : k < n := by omega
    refine ⟨by omega, by simp; omega, ?_⟩
    simp only [addObj, setFr, forceA, setK, forceS, forceL]
    unfold seqops
    simp only [wguard, wstep, opd, fget, ownsA, relAll]
    unfold wstore
    simp only [opd, fget, lget]
    conv => whnf
    refine ⟨_, (-1 : Int), tb_get (by omega), rfl, ?_⟩
    conv => whnf
    have hp := ct25 n hn es hes hl k root ⟨by omega, by omega⟩ hr
    unfold rpathRv at hp
    by_cases hd : dist n es k root < 0
    · rw [if_pos hd] at hp
      refine ⟨_, hp, ?_⟩
      conv => whnf
      refine ⟨_, wi _ (by omega) (by omega), ?_⟩
      conv => whnf
      refine ⟨(k + 1, fun b => if b = k then -1 else f b), ⟨by simp only; omega, fun b hb => ?_⟩, by show n - (k + 1) < n - k; omega, ?_⟩
      · simp only
        by_cases e : b = k
        · rw [if_pos e, e]
          unfold pathO
          rw [if_pos hd]
          rfl
        · rw [if_neg e]; exact hf b (by simp only at hb; omega)
      · repeat' (first | exact trivial | exact rfl | refine And.intro ?_ ?_)
        show intsR (List.set _ _ (-1)) = intsR _
        rw [map_set]
        simp only [Int.toNat_natCast]
    · rw [if_neg hd] at hp
      obtain ⟨pl, hpl⟩ : ∃ pl, pl = pathL n es k root := ⟨_, rfl⟩
      have hpo : pathO n es k root = pl := by unfold pathO; rw [if_neg hd, hpl]
      rw [← hpl] at hp
      refine ⟨_, hp, ?_⟩
      conv => whnf
      intro _
      conv => whnf
      refine acond_split (fun h2 => ?_) (fun h2 => ?_)
      · have h2 : (1 : Int) < (pl.length : Int) := of_decide_eq_true h2
        conv => whnf
        have hl2 : 1 < pl.length := by omega
        refine ⟨by omega, by show (1 : Int) < (pl.length : Int); omega, ?_⟩
        conv => whnf
        refine ⟨_, List.getElem?_eq_getElem hl2, ?_⟩
        conv => whnf
        refine ⟨by omega, by simp; omega, ?_⟩
        simp only [addObj, setFr, forceA, setK, forceS, forceL]
        unfold seqops
        simp only [wguard, wstep, opd, fget, ownsA, relAll]
        unfold wstore
        simp only [opd, fget, lget]
        conv => whnf
        refine ⟨(-1 : Int), pl[1], (by show (List.set _ _ _)[_]? = _; rw [map_set, tb_get (by omega), if_pos rfl]), rfl, ?_⟩
        conv => whnf
        refine ⟨_, wi _ (by omega) (by omega), ?_⟩
        conv => whnf
        refine ⟨(k + 1, fun b => if b = k then pl[1] else f b), ⟨by simp only; omega, fun b hb => ?_⟩, by show n - (k + 1) < n - k; omega, ?_⟩
        · simp only
          by_cases e : b = k
          · rw [if_pos e, e, hpo, sndB, if_neg (by omega)]
            simp [List.getD, hl2]
          · rw [if_neg e]; exact hf b (by simp only at hb; omega)
        · repeat' (first | exact trivial | exact rfl | refine And.intro ?_ ?_)
          show intsR (List.set (List.set _ _ _) _ _) = intsR _
          rw [map_set, map_set]
          congr 1
          refine List.map_congr_left fun b hb => ?_
          simp only [Int.toNat_natCast]
          by_cases e : b = k
          · rw [if_pos e, if_pos e]
          · rw [if_neg e, if_neg e, if_neg e]
      · have h2 : ¬ (1 : Int) < (pl.length : Int) := of_decide_eq_false h2
        conv => whnf
        refine ⟨_, wi _ (by omega) (by omega), ?_⟩
        conv => whnf
        refine ⟨(k + 1, fun b => if b = k then -1 else f b), ⟨by simp only; omega, fun b hb => ?_⟩, by show n - (k + 1) < n - k; omega, ?_⟩
        · simp only
          by_cases e : b = k
          · rw [if_pos e, e, hpo, sndB, if_pos (by omega)]
          · rw [if_neg e]; exact hf b (by simp only at hb; omega)
        · repeat' (first | exact trivial | exact rfl | refine And.intro ?_ ?_)
          show intsR (List.set _ _ (-1)) = intsR _
          rw [map_set]
          simp only [Int.toNat_natCast]
  · have h1 := ndec h1
    conv => whnf
    have hk' : k = n := by omega
    subst hk'
    refine ⟨?_, trivial⟩
    show intsR (rtreeL k _) = intsR (tb k f)
    congr 1
    exact List.map_congr_left fun b hb => (hf b (List.mem_range.1 hb)).symm
end Go.Fx
