/- The reference's Nodes. GraphRefuses: the walk. -/
import Derived.Test.YtoajmkplaognnaaK15
import Derived.Test.YtoajmkplaognnaaK30
set_option linter.unusedVariables false
set_option linter.unusedSimpArgs false
set_option linter.unusedSectionVars false
namespace Go.Fx
open Go.Proofs Gr
set_option maxRecDepth 100000

theorem ct68 (n : Int) (es : Es) (l : List Int) : Ct Try.prog 68 [rA n es, .one (ints l)] (.c (i64 (nodesE n l))) := by
  refine ct_of tyAll Try.func68 (by decide) rfl ?_
  conv => whnf
  refine ⟨Nat, fun k => k ≤ l.length ∧ ∀ j, (hj : j < k) → (hj' : j < l.length) → beyondB n l[j] = false, fun k => ⟨(sk 1 (.c (ints l) :: (sk 0 (.p (.one (.lptr 2 0)) :: (sk 2 (I k :: (sk 37 []))))))), [(2, [.c (i64 n), .c (prs es)])], []⟩, fun k => l.length - k, 0, ⟨by omega, fun j hj => by omega⟩, ?_, fun k hk => ?_⟩
  · repeat' (first | exact trivial | exact rfl | refine And.intro ?_ ?_)
  obtain ⟨hk, hp⟩ := hk
  conv => whnf
  intro _
  conv => whnf
  refine acond_split (fun h1 => ?_) (fun h1 => ?_)
  · have h1 := dec h1
    conv => whnf
    have hlt : k < l.length := by omega
    have hb : beyondB n l[k] = (decide (l[k] < 0) || decide (n ≤ l[k])) := rfl
    have bad : beyondB n l[k] = true → nodesE n l = 2 := fun h => by
      unfold nodesE
      rw [if_pos (List.any_eq_true.2 ⟨l[k], List.getElem_mem hlt, h⟩)]
    refine draw_intro tyAll mixed 14 (by kernel_rfl) ?_
    conv => whnf
    refine ⟨l[k], by omega, List.getElem?_eq_getElem hlt, ?_⟩
    conv => whnf
    refine acond_split (fun h2 => ?_) (fun h2 => ?_)
    · conv => whnf
      refine ⟨?_, trivial⟩
      exact congrArg i64 (bad (by rw [hb, show decide (l[k] < 0) = true from h2]; rfl))
    · conv => whnf
      refine ⟨l[k], by omega, List.getElem?_eq_getElem hlt, ?_⟩
      conv => whnf
      refine acond_split (fun h3 => ?_) (fun h3 => ?_)
      · conv => whnf
        refine ⟨?_, trivial⟩
        exact congrArg i64 (bad (by rw [hb, show decide (n ≤ l[k]) = true from h3, Bool.or_true]))
      · conv => whnf
        refine ⟨_, wi _ (by omega) (by omega), ?_⟩
        conv => whnf
        refine ⟨k + 1, ⟨by omega, fun j hj hj' => ?_⟩, by show l.length - (k + 1) < l.length - k; omega, ?_⟩
        · rcases Nat.lt_or_ge j k with h | h
          · exact hp j h hj'
          · obtain rfl : j = k := by omega
            rw [hb, show decide (l[j] < 0) = false from h2, show decide (n ≤ l[j]) = false from h3]; rfl
        · repeat' (first | exact trivial | exact rfl | refine And.intro ?_ ?_)
  have h1 := ndec h1
  conv => whnf
  have hall : l.any (beyondB n) = false := by
    rw [List.any_eq_false]
    intro x hx
    obtain ⟨j, hj, rfl⟩ := List.getElem_of_mem hx
    rw [hp j (by omega) hj]; simp
  have hnd : nodesE n l = if ascB l then 0 else 8 := by unfold nodesE; rw [if_neg (by rw [hall]; simp)]
  rw [hnd]
  refine ⟨Nat, fun k => 1 ≤ k ∧ (k ≤ l.length ∨ k = 1) ∧ ∀ j, (h : j + 1 < l.length) → j + 1 < k → l[j]'(by omega) < l[j+1], fun k => ⟨(sk 1 (.c (ints l) :: (sk 0 (.p (.one (.lptr 2 0)) :: (sk 3 (I k :: (sk 36 []))))))), [(2, [.c (i64 n), .c (prs es)])], []⟩, fun k => l.length - k, 1, ⟨by omega, .inr rfl, fun j h h' => by omega⟩, ?_, fun k hk' => ?_⟩
  · repeat' (first | exact trivial | exact rfl | refine And.intro ?_ ?_)
  obtain ⟨hk1, hk2, hs⟩ := hk'
  conv => whnf
  intro _
  conv => whnf
  refine acond_split (fun h3 => ?_) (fun h3 => ?_)
  · have h3 := dec h3
    conv => whnf
    have hlt : k < l.length := by omega
    obtain ⟨j, rfl⟩ : ∃ j, k = j + 1 := ⟨k - 1, by omega⟩
    refine draw_intro tyAll mixed 10 (by kernel_rfl) ?_
    conv => whnf
    refine ⟨j, by rw [wi _ (by omega) (by omega)]; omega, ?_⟩
    conv => whnf
    refine ⟨l[j], by omega, List.getElem?_eq_getElem (by omega), ?_⟩
    conv => whnf
    refine ⟨l[j + 1], by omega, List.getElem?_eq_getElem hlt, ?_⟩
    conv => whnf
    refine acond_split (fun h4 => ?_) (fun h4 => ?_)
    · have h4 : l[j + 1] ≤ l[j] := of_decide_eq_true h4
      conv => whnf
      refine ⟨?_, trivial⟩
      refine congrArg i64 ?_
      rw [if_neg]
      intro hc
      have := ascB_iff.1 hc j hlt
      omega
    · have h4 : ¬ l[j + 1] ≤ l[j] := of_decide_eq_false h4
      conv => whnf
      refine ⟨_, wi _ (by omega) (by omega), ?_⟩
      conv => whnf
      refine ⟨j + 1 + 1, ⟨by omega, .inl (by omega), fun i h h' => ?_⟩, by show l.length - (j + 1 + 1) < l.length - (j + 1); omega, ?_⟩
      · by_cases e : i = j
        · subst e; omega
        · exact hs i h (by omega)
      · repeat' (first | exact trivial | exact rfl | refine And.intro ?_ ?_)
  · have h3 := ndec h3
    conv => whnf
    refine ⟨?_, trivial⟩
    exact congrArg i64 (by rw [if_pos (ascB_iff.2 fun j hj => hs j hj (by omega))])
end Go.Fx

namespace Go.Fx
open Go.Proofs Gr
set_option maxRecDepth 100000

theorem ready_err {n : Int} {es : Es} {l : List Int} (h : checkG n es ≠ 0) : readyE n es l = checkG n es := by unfold readyE; rw [if_pos h]
theorem ready_in {n : Int} {es : Es} {l : List Int} (h : checkG n es = 0) : readyE n es l = nodesE n l := by unfold readyE; rw [if_neg (by simp [h])]
theorem single_err2 {n : Int} {es : Es} {a b : Int} (h : checkG n es ≠ 0) : singleE n es [a, b] = checkG n es := by
  unfold singleE
  rw [List.map_cons, fstNZ, ready_err h, if_neg h]
theorem nodes_one (n a : Int) : nodesE n [a] = if beyondB n a then 2 else 0 := by
  unfold nodesE
  simp [ascB]
theorem single_out2 {n : Int} {es : Es} {a b : Int} (hc : checkG n es = 0) (h : beyondB n a = true ∨ beyondB n b = true) : singleE n es [a, b] = 2 := by
  unfold singleE
  rw [List.map_cons, List.map_cons, List.map_nil, ready_in hc, ready_in hc, nodes_one, nodes_one, fstNZ, fstNZ, fstNZ]
  rcases h with h | h
  · simp [h]
  · cases ha : beyondB n a <;> simp [h]
theorem flat_cl (b : Bool) (m : Int) : FlatRv (.tup [.one (.c (.bool b)), .one (.c (i64 m))]) := fun x hx => by
  rcases List.mem_cons.1 hx with rfl | hx
  · exact flat_bool _
  · rcases List.mem_cons.1 hx with rfl | hx
    · exact flat_int _ _
    · cases hx

set_option maxHeartbeats 4000000 in
theorem ct12 (n : Int) (es : Es) (l : List Int) (p : Int × Int) : Ct Try.prog 12 [gA n es, .one (ints l), eA p] (.c (.bool true)) := by
  refine ct_of tyAll Try.func12 (by decide) rfl ?_
  obtain ⟨a, b⟩ := p
  conv => whnf
  refine ⟨_, ct14, ?_⟩
  conv => whnf
  refine ⟨_, ct15 n es, ?_⟩
  conv => whnf
  refine acond_split (fun h1 => ?_) (fun h1 => ?_)
  · conv => whnf
    refine ⟨_, ct14, ?_⟩
    conv => whnf
    repeat' (first | exact trivial | exact rfl | refine And.intro ?_ ?_)
  have h1 : decide (es.length ≤ 24 ∧ (n ≤ 8 ∨ 64 < n)) = true := Eq.mp (Bool.not_eq_false' _) h1
  have hl : es.length ≤ 24 := (of_decide_eq_true h1).1
  conv => whnf
  intro _
  conv => whnf
  refine acond_split (fun h2 => ?_) (fun h2 => ?_)
  · have h2 := dec h2
    conv => whnf
    refine ⟨_, ct14, ?_⟩
    conv => whnf
    repeat' (first | exact trivial | exact rfl | refine And.intro ?_ ?_)
  have h2 := ndec h2
  conv => whnf
  have hll : l.length ≤ 8 := by omega
  have h67 := ct67 n es
  have h37 := ct37 n es l (by omega)
  have h38 := ct38 n es l
  have h54 := ct54 n es l (by omega)
  have h23 := ct23 n es a b
  unfold reachRv at h37
  unfold closedRv at h38
  unfold pathAll at h23
  refine ⟨_, ct26 n es (by omega), ?_⟩
  conv => whnf
  refine .inl ?_
  conv => whnf
  refine ⟨_, h67, .inl (flat_int _ _), ?_⟩
  conv => whnf
  refine acond_split (fun hc => ?_) (fun hc => ?_)
  · have hc : checkG n es = 0 := of_decide_eq_true hc
    have h27 := ct27 n es a
    have h28 := ct28 n es b
    unfold treeRv at h27 h28
    have h23o := fun (h : beyondB n a = true ∨ beyondB n b = true) => show Ct Try.prog 23 [gA n es, .one (i64 a), .one (i64 b)] (.tup [.one (.c .nil), .one (.c (i64 2))]) by
      have h23 := h23
      rw [single_out2 hc h, if_neg (by omega)] at h23
      exact h23
    have h23i := fun (ha : 0 ≤ a ∧ a < n) (hb : 0 ≤ b ∧ b < n) => show Ct Try.prog 23 [gA n es, .one (i64 a), .one (i64 b)] (if dist n.toNat es a b < 0 then .tup [.one (.c .nil), .one (.c (i64 10))] else .tup [.one (.row 0 (intsR (pathL n.toNat es a b))), .one (.c (i64 0))]) by
      have h23 := h23
      rw [if_pos (single_ok2 hc ha hb)] at h23
      exact h23
    have h27i := fun (ha : 0 ≤ a ∧ a < n) => show Ct Try.prog 27 [gA n es, .one (i64 a)] (.tup [.one (.row 0 (intsR (treeL n.toNat a fun k => lastB (pathO n.toNat es a k)))), .one (.c (i64 0))]) by
      have h27 := h27
      rw [if_pos (single_ok1 hc ha)] at h27
      exact h27
    have h28i := fun (hb : 0 ≤ b ∧ b < n) => show Ct Try.prog 28 [gA n es, .one (i64 b)] (.tup [.one (.row 0 (intsR (treeL n.toNat b fun k => sndB (pathO n.toNat es k b)))), .one (.c (i64 0))]) by
      have h28 := h28
      rw [if_pos (single_ok1 hc hb)] at h28
      exact h28
    clear h23 h27 h28
    rw [ready_in hc] at h37 h38 h54
    rw [hc] at h67
    have h68 := ct68 n es l
    obtain ⟨w, hw⟩ : ∃ w, w = nodesE n l := ⟨_, rfl⟩
    rw [← hw] at h37 h38 h54 h68
    conv => whnf
    refine ⟨_, ct26 n es (by omega), ?_⟩
    conv => whnf
    refine .inl ?_
    conv => whnf
    refine ⟨_, h68, .inl (flat_int _ _), ?_⟩
    conv => whnf
    have hnn : decide (w ≠ w) = false := decide_eq_false (fun h => h rfl)
    by_cases hw0 : w = 0
    · subst hw0
      rw [if_pos rfl] at h37 h38 h54
      refine draw_intro tyAll mixed 9 (by kernel_rfl) ?_
      conv => whnf
      refine ⟨_, ct55 l (by omega), ?_⟩
      conv => whnf
      refine ⟨_, h37, .inl (flat_ints _ _), ?_⟩
      conv => whnf
      refine ⟨_, h38, ?_⟩
      conv => whnf
      refine ⟨_, h54, ?_⟩
      conv => whnf
      refine ⟨_, ct26 n es (by omega), ?_⟩
      conv => whnf
      refine .inl ?_
      conv => whnf
      refine ⟨_, h67, .inl (flat_int _ _), ?_⟩
      conv => whnf
      refine ⟨by omega, by omega, ?_⟩
      conv => whnf
      refine acond_split (fun h9 => ?_) (fun h9 => ?_)
      · have h9 : a < 0 := of_decide_eq_true h9
        conv => whnf
        refine ⟨by omega, by omega, ?_⟩
        conv => whnf
        refine ⟨by omega, by omega, ?_⟩
        conv => whnf
        refine ⟨_, h23o (by unfold beyondB; left; rw [decide_eq_true h9]; rfl), ?_⟩
        conv => whnf
        repeat' (first | exact trivial | exact rfl | refine And.intro ?_ ?_)
      have h9 : ¬ a < 0 := of_decide_eq_false h9
      conv => whnf
      refine ⟨by omega, by omega, ?_⟩
      conv => whnf
      refine acond_split (fun h10 => ?_) (fun h10 => ?_)
      · have h10 : n ≤ a := of_decide_eq_true h10
        conv => whnf
        refine ⟨by omega, by omega, ?_⟩
        conv => whnf
        refine ⟨by omega, by omega, ?_⟩
        conv => whnf
        refine ⟨_, h23o (by unfold beyondB; left; rw [decide_eq_true h10, Bool.or_true]), ?_⟩
        conv => whnf
        repeat' (first | exact trivial | exact rfl | refine And.intro ?_ ?_)
      have h10 : ¬ n ≤ a := of_decide_eq_false h10
      conv => whnf
      refine ⟨by omega, by omega, ?_⟩
      conv => whnf
      refine acond_split (fun h11 => ?_) (fun h11 => ?_)
      · have h11 : b < 0 := of_decide_eq_true h11
        conv => whnf
        refine ⟨by omega, by omega, ?_⟩
        conv => whnf
        refine ⟨by omega, by omega, ?_⟩
        conv => whnf
        refine ⟨_, h23o (by unfold beyondB; right; rw [decide_eq_true h11]; rfl), ?_⟩
        conv => whnf
        repeat' (first | exact trivial | exact rfl | refine And.intro ?_ ?_)
      have h11 : ¬ b < 0 := of_decide_eq_false h11
      conv => whnf
      refine ⟨by omega, by omega, ?_⟩
      conv => whnf
      refine acond_split (fun h12 => ?_) (fun h12 => ?_)
      · have h12 : n ≤ b := of_decide_eq_true h12
        conv => whnf
        refine ⟨by omega, by omega, ?_⟩
        conv => whnf
        refine ⟨by omega, by omega, ?_⟩
        conv => whnf
        refine ⟨_, h23o (by unfold beyondB; right; rw [decide_eq_true h12, Bool.or_true]), ?_⟩
        conv => whnf
        repeat' (first | exact trivial | exact rfl | refine And.intro ?_ ?_)
      have h12 : ¬ n ≤ b := of_decide_eq_false h12
      have h23 := h23i (by omega) (by omega)
      have h27 := h27i (by omega)
      have h28 := h28i (by omega)
      conv => whnf
      refine ⟨by omega, by omega, ?_⟩
      conv => whnf
      refine ⟨by omega, by omega, ?_⟩
      conv => whnf
      by_cases hd : dist n.toNat es a b < 0
      · rw [if_pos hd] at h23
        refine ⟨_, h23, ?_⟩
        conv => whnf
        refine ⟨by omega, by omega, ?_⟩
        conv => whnf
        refine ⟨_, h27, ?_⟩
        conv => whnf
        refine ⟨by omega, by omega, ?_⟩
        conv => whnf
        refine ⟨_, h28, ?_⟩
        conv => whnf
        repeat' (first | exact trivial | exact rfl | refine And.intro ?_ ?_)
      · rw [if_neg hd] at h23
        refine ⟨_, h23, ?_⟩
        conv => whnf
        refine ⟨by omega, by omega, ?_⟩
        conv => whnf
        refine ⟨_, h27, ?_⟩
        conv => whnf
        refine ⟨by omega, by omega, ?_⟩
        conv => whnf
        refine ⟨_, h28, ?_⟩
        conv => whnf
        repeat' (first | exact trivial | exact rfl | refine And.intro ?_ ?_)
    · rw [if_neg hw0] at h37 h38 h54
      refine draw_intro tyAll mixed 9 (by kernel_rfl) ?_
      conv => whnf
      refine ⟨_, ct55 l (by omega), ?_⟩
      conv => whnf
      refine ⟨_, h37, .inl (flat_err _), ?_⟩
      conv => whnf
      refine ⟨_, h38, ?_⟩
      conv => whnf
      refine ⟨_, h54, ?_⟩
      conv => whnf
      rw [hnn]
      conv => whnf
      rw [hnn]
      conv => whnf
      rw [hnn]
      conv => whnf
      refine acond_split (fun h8 => ?_) (fun h8 => ?_)
      · conv => whnf
        refine ⟨_, wi _ (by omega) (by omega), ?_⟩
        conv => whnf
        refine ⟨_, wi _ (by omega) (by omega), ?_⟩
        conv => whnf
        refine ⟨_, ct26 n es (by omega), ?_⟩
        conv => whnf
        refine .inl ?_
        conv => whnf
        refine ⟨_, h67, .inl (flat_int _ _), ?_⟩
        conv => whnf
        refine ⟨by omega, by omega, ?_⟩
        conv => whnf
        refine acond_split (fun h9 => ?_) (fun h9 => ?_)
        · have h9 : a < 0 := of_decide_eq_true h9
          conv => whnf
          refine ⟨by omega, by omega, ?_⟩
          conv => whnf
          refine ⟨by omega, by omega, ?_⟩
          conv => whnf
          refine ⟨_, h23o (by unfold beyondB; left; rw [decide_eq_true h9]; rfl), ?_⟩
          conv => whnf
          repeat' (first | exact trivial | exact rfl | refine And.intro ?_ ?_)
        have h9 : ¬ a < 0 := of_decide_eq_false h9
        conv => whnf
        refine ⟨by omega, by omega, ?_⟩
        conv => whnf
        refine acond_split (fun h10 => ?_) (fun h10 => ?_)
        · have h10 : n ≤ a := of_decide_eq_true h10
          conv => whnf
          refine ⟨by omega, by omega, ?_⟩
          conv => whnf
          refine ⟨by omega, by omega, ?_⟩
          conv => whnf
          refine ⟨_, h23o (by unfold beyondB; left; rw [decide_eq_true h10, Bool.or_true]), ?_⟩
          conv => whnf
          repeat' (first | exact trivial | exact rfl | refine And.intro ?_ ?_)
        have h10 : ¬ n ≤ a := of_decide_eq_false h10
        conv => whnf
        refine ⟨by omega, by omega, ?_⟩
        conv => whnf
        refine acond_split (fun h11 => ?_) (fun h11 => ?_)
        · have h11 : b < 0 := of_decide_eq_true h11
          conv => whnf
          refine ⟨by omega, by omega, ?_⟩
          conv => whnf
          refine ⟨by omega, by omega, ?_⟩
          conv => whnf
          refine ⟨_, h23o (by unfold beyondB; right; rw [decide_eq_true h11]; rfl), ?_⟩
          conv => whnf
          repeat' (first | exact trivial | exact rfl | refine And.intro ?_ ?_)
        have h11 : ¬ b < 0 := of_decide_eq_false h11
        conv => whnf
        refine ⟨by omega, by omega, ?_⟩
        conv => whnf
        refine acond_split (fun h12 => ?_) (fun h12 => ?_)
        · have h12 : n ≤ b := of_decide_eq_true h12
          conv => whnf
          refine ⟨by omega, by omega, ?_⟩
          conv => whnf
          refine ⟨by omega, by omega, ?_⟩
          conv => whnf
          refine ⟨_, h23o (by unfold beyondB; right; rw [decide_eq_true h12, Bool.or_true]), ?_⟩
          conv => whnf
          repeat' (first | exact trivial | exact rfl | refine And.intro ?_ ?_)
        have h12 : ¬ n ≤ b := of_decide_eq_false h12
        have h23 := h23i (by omega) (by omega)
        have h27 := h27i (by omega)
        have h28 := h28i (by omega)
        conv => whnf
        refine ⟨by omega, by omega, ?_⟩
        conv => whnf
        refine ⟨by omega, by omega, ?_⟩
        conv => whnf
        by_cases hd : dist n.toNat es a b < 0
        · rw [if_pos hd] at h23
          refine ⟨_, h23, ?_⟩
          conv => whnf
          refine ⟨by omega, by omega, ?_⟩
          conv => whnf
          refine ⟨_, h27, ?_⟩
          conv => whnf
          refine ⟨by omega, by omega, ?_⟩
          conv => whnf
          refine ⟨_, h28, ?_⟩
          conv => whnf
          repeat' (first | exact trivial | exact rfl | refine And.intro ?_ ?_)
        · rw [if_neg hd] at h23
          refine ⟨_, h23, ?_⟩
          conv => whnf
          refine ⟨by omega, by omega, ?_⟩
          conv => whnf
          refine ⟨_, h27, ?_⟩
          conv => whnf
          refine ⟨by omega, by omega, ?_⟩
          conv => whnf
          refine ⟨_, h28, ?_⟩
          conv => whnf
          repeat' (first | exact trivial | exact rfl | refine And.intro ?_ ?_)
      · exact absurd (Decidable.not_not.1 (of_decide_eq_false h8)) hw0
  · have hc : checkG n es ≠ 0 := of_decide_eq_false hc
    rw [ready_err hc] at h37 h38 h54
    rw [single_err2 hc] at h23
    rw [if_neg hc] at h37 h38 h54 h23
    obtain ⟨c, hcd⟩ : ∃ c, c = checkG n es := ⟨_, rfl⟩
    rw [← hcd] at h37 h38 h54 h23 h67 hc ⊢
    have hnn : decide (c ≠ c) = false := decide_eq_false (fun h => h rfl)
    have hcc : decide (c = c) = true := decide_eq_true rfl
    conv => whnf
    refine draw_intro tyAll mixed 9 (by kernel_rfl) ?_
    conv => whnf
    refine ⟨_, ct55 l (by omega), ?_⟩
    conv => whnf
    refine ⟨_, h37, .inl (flat_err _), ?_⟩
    conv => whnf
    refine ⟨_, h38, ?_⟩
    conv => whnf
    refine ⟨_, h54, ?_⟩
    conv => whnf
    rw [hnn]
    conv => whnf
    rw [hnn]
    conv => whnf
    rw [hnn]
    conv => whnf
    refine acond_split (fun h8 => ?_) (fun h8 => ?_)
    · conv => whnf
      refine ⟨_, wi _ (by omega) (by omega), ?_⟩
      conv => whnf
      refine ⟨_, wi _ (by omega) (by omega), ?_⟩
      conv => whnf
      refine ⟨_, ct26 n es (by omega), ?_⟩
      conv => whnf
      refine .inl ?_
      conv => whnf
      refine ⟨_, h67, .inl (flat_int _ _), ?_⟩
      conv => whnf
      refine acond_split (fun h9 => ?_) (fun h9 => ?_)
      · exact absurd (of_decide_eq_true h9) hc
      conv => whnf
      refine ⟨by omega, by omega, ?_⟩
      conv => whnf
      refine ⟨by omega, by omega, ?_⟩
      conv => whnf
      refine ⟨_, h23, ?_⟩
      conv => whnf
      refine acond_split (fun h10 => ?_) (fun h10 => ?_)
      · conv => whnf
        rw [hcc]
        conv => whnf
        repeat' (first | exact trivial | exact rfl | refine And.intro ?_ ?_)
      · exact absurd (Decidable.not_not.1 (of_decide_eq_false h10)) hc
    · exact absurd (Decidable.not_not.1 (of_decide_eq_false h8)) hc
end Go.Fx
