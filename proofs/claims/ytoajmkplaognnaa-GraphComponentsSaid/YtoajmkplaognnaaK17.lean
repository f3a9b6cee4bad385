/- Plain: Reverse and Induced. BinarySearch, Reverse, Induced. The reference's Reverse and Induced; GraphReverses. GraphReverses: the walk. -/
import Derived.Test.YtoajmkplaognnaaK14
import Derived.Test.YtoajmkplaognnaaK15
import Derived.Test.YtoajmkplaognnaaK8
set_option linter.unusedVariables false
set_option linter.unusedSimpArgs false
set_option linter.unusedSectionVars false
namespace Go.Fx.Gr
open Go.Fx Go.Lib Go.Sort Go.Proofs

theorem sortedL_nodup {es : Es} (h : SortedL es) : es.Nodup := List.Pairwise.imp (R := lt2) (fun {a b} hab e => by subst e; exact lt2_irrefl a hab) h
theorem mkL_fix {n : Nat} {es : Es} (hes : inR n es) (hs : SortedL es) : mkL n es = es :=
  strict_ext lt2_irrefl lt2_asymm (mkL_sorted n es) hs fun x => mkL_mem n es hes x

theorem srt_strict {es : Es} (h : es.Nodup) : (srt es).Pairwise lt2 := by
  have hs := (srt_sorts es).2
  have hn : (srt es).Nodup := by
    have h2 := (srt_sorts es).1.2.2
    have e1 : ((srt es).toArray.extract 0 es.length).toList = srt es := by
      simp [srt_length, List.take_of_length_le (Nat.le_of_eq (srt_length es))]
    have e2 : (es.toArray.extract 0 es.length).toList = es := by simp
    rw [e1, e2] at h2
    exact h2.nodup_iff.2 h
  rw [List.pairwise_iff_getElem]
  intro i j hi hj hij
  have h1 := hs i j (Nat.zero_le _) hij (by rw [← srt_length es]; exact hj)
  rw [lt_e] at h1
  have h1 : ¬ lt2 (srt es)[j] (srt es)[i] := by
    have h1 := of_decide_eq_false h1
    simpa [lt2, hi, hj] using h1
  refine lt2_total h1 fun e => ?_
  have := List.pairwise_iff_getElem.1 hn i j hi hj hij
  exact this e.symm
end Go.Fx.Gr
namespace Go.Fx
open Go.Proofs Gr
set_option maxRecDepth 100000
theorem swapE_in {n : Nat} {es : Es} (hes : inR n es) : inR n (swapE es) := by
  intro e he
  obtain ⟨x, hx, rfl⟩ := List.mem_map.1 he
  exact ⟨(hes x hx).2, (hes x hx).1⟩
theorem swapE_nodup {es : Es} (h : es.Nodup) : (swapE es).Nodup := by
  unfold swapE
  refine List.Pairwise.map _ (fun a b hab e => ?_) h
  obtain ⟨a1, a2⟩ := a
  obtain ⟨b1, b2⟩ := b
  simp only [Prod.mk.injEq] at e
  exact hab (by rw [e.1, e.2])
theorem revL_mk {n : Nat} {es : Es} (hes : inR n es) (hs : SortedL es) : mkL n (swapE es) = revL es :=
  strict_ext lt2_irrefl lt2_asymm (mkL_sorted n _) (srt_strict (swapE_nodup (sortedL_nodup hs))) fun x => by
    rw [mkL_mem n _ (swapE_in hes)]
    exact (srt_mem (swapE es) x).symm
theorem revL_sorted {es : Es} (hs : SortedL es) : SortedL (revL es) := srt_strict (swapE_nodup (sortedL_nodup hs))

/-- How many of a list lie below. -/
def posL (l : List Int) (x : Int) : Nat := l.countP fun y => decide (y < x)
theorem posL_le (l : List Int) (x : Int) : posL l x ≤ l.length := List.countP_le_length
theorem posL_split : ∀ {l : List Int}, l.Pairwise (· < ·) → ∀ {x : Int} {i : Nat}, (∀ j, (h : j < l.length) → (l[j] < x ↔ j < i)) → i ≤ l.length → posL l x = i
  | [], _, x, i, _, hi => by simp [posL]; simp at hi; omega
  | y :: l, hl, x, i, h, hi => by
    rw [List.pairwise_cons] at hl
    cases i with
    | zero =>
      unfold posL
      rw [List.countP_eq_zero]
      intro z hz
      obtain ⟨j, hj, rfl⟩ := List.getElem_of_mem hz
      have := (h j hj)
      simp only [decide_eq_true_eq]
      omega
    | succ i =>
      have h0 := (h 0 (by simp)).2 (by omega)
      have ih := posL_split (l := l) hl.2 (x := x) (i := i) (fun j hj => by
        have := h (j + 1) (by simpa using hj)
        simp only [List.getElem_cons_succ] at this
        rw [this]; omega) (by simpa using hi)
      unfold posL at ih ⊢
      rw [List.countP_cons_of_pos (by simpa using h0), ih]
theorem posL_at {l : List Int} (hl : l.Pairwise (· < ·)) {i : Nat} (hi : i < l.length) : posL l l[i] = i := by
  refine posL_split hl (fun j hj => ?_) (by omega)
  have hp := List.pairwise_iff_getElem.1 hl
  constructor
  · intro h
    rcases Nat.lt_or_ge j i with h1 | h1
    · exact h1
    · rcases Nat.eq_or_lt_of_le h1 with rfl | h1
      · omega
      · have := hp i j hi hj h1; omega
  · intro h
    exact hp j i hj hi h
theorem posL_lt {l : List Int} (hl : l.Pairwise (· < ·)) {x : Int} (hx : x ∈ l) : posL l x < l.length ∧ l[posL l x]? = some x := by
  obtain ⟨i, hi, rfl⟩ := List.getElem_of_mem hx
  rw [posL_at hl hi]
  exact ⟨hi, List.getElem?_eq_getElem hi⟩

/-- The edges among some nodes, by their places. -/
def indL (l : List Int) (es : Es) : Es := (es.filter fun e => decide (e.1 ∈ l) && decide (e.2 ∈ l)).map fun e => ((posL l e.1 : Int), (posL l e.2 : Int))
theorem indL_mem {l : List Int} (hl : l.Pairwise (· < ·)) {es : Es} {i j : Nat} (hi : i < l.length) (hj : j < l.length) : ((i : Int), (j : Int)) ∈ indL l es ↔ (l[i], l[j]) ∈ es := by
  unfold indL
  rw [List.mem_map]
  constructor
  · rintro ⟨⟨a, b⟩, he, h⟩
    obtain ⟨he, h1⟩ := List.mem_filter.1 he
    simp only [Bool.and_eq_true, decide_eq_true_eq] at h1
    obtain ⟨⟨p, hp, rfl⟩, q, hq, rfl⟩ := And.intro (List.getElem_of_mem h1.1) (List.getElem_of_mem h1.2)
    simp only [posL_at hl hp, posL_at hl hq, Prod.mk.injEq] at h
    obtain ⟨h2, h3⟩ := h
    obtain rfl : p = i := by omega
    obtain rfl : q = j := by omega
    exact he
  · intro h
    exact ⟨_, List.mem_filter.2 ⟨h, by simp⟩, by simp only [posL_at hl hi, posL_at hl hj]⟩
theorem indL_in {l : List Int} (hl : l.Pairwise (· < ·)) (es : Es) : inR l.length (indL l es) := by
  intro e he
  unfold indL at he
  obtain ⟨⟨a, b⟩, he2, rfl⟩ := List.mem_map.1 he
  have h1 := (List.mem_filter.1 he2).2
  simp only [Bool.and_eq_true, decide_eq_true_eq] at h1
  have h2 := (posL_lt hl h1.1).1
  have h3 := (posL_lt hl h1.2).1
  simp only
  omega
theorem posL_mono {l : List Int} (hl : l.Pairwise (· < ·)) {x y : Int} (hx : x ∈ l) (hy : y ∈ l) (h : x < y) : posL l x < posL l y := by
  obtain ⟨i, hi, rfl⟩ := List.getElem_of_mem hx
  obtain ⟨j, hj, rfl⟩ := List.getElem_of_mem hy
  rw [posL_at hl hi, posL_at hl hj]
  rcases Nat.lt_or_ge i j with h1 | h1
  · exact h1
  · rcases Nat.eq_or_lt_of_le h1 with rfl | h1
    · omega
    · have := List.pairwise_iff_getElem.1 hl j i hj hi h1; omega
theorem indL_sorted {l : List Int} (hl : l.Pairwise (· < ·)) {es : Es} (hs : SortedL es) : SortedL (indL l es) := by
  unfold indL SortedL
  rw [List.pairwise_map]
  refine List.Pairwise.imp_of_mem (R := lt2) (fun {a b} ha hb hab => ?_) (List.Pairwise.filter _ hs)
  have ha := (List.mem_filter.1 ha).2
  have hb := (List.mem_filter.1 hb).2
  simp only [Bool.and_eq_true, decide_eq_true_eq] at ha hb
  rcases hab with h | ⟨h1, h2⟩
  · have := posL_mono hl ha.1 hb.1 h
    exact .inl (by simp only; omega)
  · have := posL_mono hl ha.2 hb.2 h2
    exact .inr ⟨by simp only; rw [h1], by simp only; omega⟩
theorem indL_length (l : List Int) (es : Es) : (indL l es).length ≤ es.length := by
  unfold indL; rw [List.length_map]; exact List.length_filter_le _ _
theorem indL_succ (l : List Int) (es : Es) (k : Nat) (h : k < es.length) : indL l (es.take (k + 1)) = indL l (es.take k) ++ if es[k].1 ∈ l ∧ es[k].2 ∈ l then [((posL l es[k].1 : Int), (posL l es[k].2 : Int))] else [] := by
  unfold indL
  rw [List.take_succ_eq_append_getElem h, List.filter_append, List.map_append]
  congr 1
  by_cases h1 : es[k].1 ∈ l <;> by_cases h2 : es[k].2 ∈ l <;> simp [h1, h2]
end Go.Fx

namespace Go.Fx
open Go.Proofs Gr
set_option maxRecDepth 100000

theorem asc_pairwise : ∀ {l : List Int}, ascB l = true → l.Pairwise (· < ·)
  | [], _ => List.Pairwise.nil
  | [_], _ => List.pairwise_singleton _ _
  | a :: b :: l, h => by
    rw [ascB, Bool.and_eq_true, decide_eq_true_eq] at h
    have ih := asc_pairwise (l := b :: l) h.2
    refine List.pairwise_cons.2 ⟨fun x hx => ?_, ih⟩
    rcases List.mem_cons.1 hx with rfl | hx
    · exact h.1
    · have := (List.pairwise_cons.1 ih).1 x hx
      omega

theorem ct110 (x y : Int) : Ct Try.prog 110 [.one (i64 x), .one (i64 y)] (.c (.bool (decide (x < y)))) := by
  refine ct_of tyAll Try.func110 (by decide) rfl ?_
  conv => whnf
  refine ⟨_, ct122 x, ?_⟩
  conv => whnf
  repeat' (first | exact trivial | exact rfl | refine And.intro ?_ ?_)

theorem ct111 (x : Int) : Ct Try.prog 111 [.one (i64 x)] (.c (.bool false)) := by
  refine ct_of tyAll Try.func111 (by decide) rfl ?_
  conv => whnf
  repeat' (first | exact trivial | exact rfl | refine And.intro ?_ ?_)
  show CVal.bool false = CVal.bool (decide (x ≠ x))
  rw [decide_eq_false fun h => h rfl]

theorem half (a b : Nat) (h : a + b ≤ 4000000) : IntKind.i64.wrap (((a : Int) + b).fdiv 2) = (((a + b) / 2 : Nat) : Int) := by
  rw [Int.fdiv_eq_ediv_of_nonneg _ (by omega), wi _ (by omega) (by omega)]
  omega

theorem ct98 (l : List Int) (hl : l.Pairwise (· < ·)) (hll : l.length ≤ 1000000) (x : Int) : Ct Try.prog 98 [.one (ints l), .one (i64 x)] (.tup [.one (.c (i64 (posL l x))), .one (.c (.bool (decide (x ∈ l))))]) := by
  refine ct_of tyAll Try.func98 (by decide) rfl ?_
  have hp := List.pairwise_iff_getElem.1 hl
  conv => whnf
  intro hlen
  conv => whnf
  refine ⟨Nat × Nat, fun i => i.1 ≤ i.2 ∧ i.2 ≤ l.length ∧ ∀ j, (h : j < l.length) → (j < i.1 → l[j] < x) ∧ (i.2 ≤ j → ¬ l[j] < x), fun i => ⟨(sk 0 (.c (ints l) :: (sk 0 (I x :: (sk 4 (I l.length :: (sk 0 (I i.1 :: (sk 0 (I i.2 :: (sk 45 []))))))))))), [], []⟩, fun i => i.2 - i.1, (0, l.length), ⟨by simp, by simp, fun j hj => ⟨by simp, fun h => by simp only at h; omega⟩⟩, ?_, fun i hi => ?_⟩
  · repeat' (first | exact trivial | exact rfl | refine And.intro ?_ ?_)
  obtain ⟨i, j⟩ := i
  obtain ⟨hij, hj, hs⟩ := hi
  simp only at hij hj hs
  simp only [awp]
  conv => whnf
  refine acond_split (fun h1 => ?_) (fun h1 => ?_)
  · have h1 := dec h1
    conv => whnf
    refine ⟨_, wi _ (by omega) (by omega), ?_⟩
    conv => whnf
    refine ⟨(i : Int) + j, by rw [IntKind.wrap_u64]; omega, ?_⟩
    conv => whnf
    refine ⟨by omega, ?_⟩
    conv => whnf
    refine ⟨_, half i j (by omega), ?_⟩
    conv => whnf
    have hlt : (i + j) / 2 < l.length := by omega
    refine ⟨l[(i + j) / 2], by omega, List.getElem?_eq_getElem hlt, ?_⟩
    conv => whnf
    refine ⟨_, ct110 l[(i + j) / 2] x, ?_⟩
    conv => whnf
    refine acond_split (fun h2 => ?_) (fun h2 => ?_)
    · have h2 := dec h2
      conv => whnf
      refine ⟨_, wi _ (by omega) (by omega), ?_⟩
      conv => whnf
      refine ⟨((i + j) / 2 + 1, j), ⟨by simp only; omega, hj, fun k hk => ⟨fun h => ?_, (hs k hk).2⟩⟩, by simp only; omega, ?_⟩
      · simp only at h
        rcases Nat.lt_or_ge k ((i + j) / 2) with h3 | h3
        · have := hp k ((i + j) / 2) hk hlt h3; omega
        · obtain rfl : k = (i + j) / 2 := by omega
          exact h2
      · repeat' (first | exact trivial | exact rfl | refine And.intro ?_ ?_)
    · have h2 := ndec h2
      conv => whnf
      refine ⟨(i, (i + j) / 2), ⟨by simp only; omega, by simp only; omega, fun k hk => ⟨(hs k hk).1, fun h => ?_⟩⟩, by simp only; omega, ?_⟩
      · simp only at h
        rcases Nat.lt_or_ge ((i + j) / 2) k with h3 | h3
        · have := hp ((i + j) / 2) k hlt hk h3; omega
        · obtain rfl : k = (i + j) / 2 := by omega
          exact h2
      · repeat' (first | exact trivial | exact rfl | refine And.intro ?_ ?_)
  · have h1 := ndec h1
    conv => whnf
    have hji : j = i := by omega
    subst hji
    have hpos : posL l x = j := posL_split hl (fun k hk => ⟨fun h => by
      rcases Nat.lt_or_ge k j with h3 | h3
      · exact h3
      · exact absurd h ((hs k hk).2 h3), fun h => (hs k hk).1 h⟩) hj
    rw [hpos]
    have hmem : x ∈ l → j < l.length ∧ l[j]? = some x := fun hx => hpos ▸ posL_lt hl hx
    refine acond_split (fun h2 => ?_) (fun h2 => ?_)
    · have h2 := dec h2
      conv => whnf
      have hlt : j < l.length := by omega
      refine ⟨l[j], by omega, List.getElem?_eq_getElem hlt, ?_⟩
      conv => whnf
      refine acond_split (fun h3 => ?_) (fun h3 => ?_)
      · have h3 := dec h3
        conv => whnf
        repeat' (first | exact trivial | exact rfl | refine And.intro ?_ ?_)
        show CVal.bool _ = CVal.bool true
        rw [decide_eq_true (h3 ▸ List.getElem_mem hlt)]
      · have h3 := ndec h3
        conv => whnf
        refine ⟨l[j], by omega, List.getElem?_eq_getElem hlt, ?_⟩
        conv => whnf
        refine ⟨_, ct111 l[j], ?_⟩
        conv => whnf
        repeat' (first | exact trivial | exact rfl | refine And.intro ?_ ?_)
        show CVal.bool _ = CVal.bool false
        rw [decide_eq_false fun hx => h3 ?_]
        have := (hmem hx).2
        rw [List.getElem?_eq_getElem hlt] at this
        exact Option.some.inj this
    · have h2 := ndec h2
      conv => whnf
      repeat' (first | exact trivial | exact rfl | refine And.intro ?_ ?_)
      show CVal.bool _ = CVal.bool false
      rw [decide_eq_false fun hx => h2 ?_]
      have := (hmem hx).1
      omega

theorem ct53 (n : Int) (es : Es) : Ct Try.prog 53 [gA n es] (if checkG n es = 0 then .tup [.agg [.c (i64 n), .row 0 (edgesR (revL es))], .one (.c (i64 0))] else .tup [.agg [.c (i64 0), .c .nil], .one (.c (i64 (checkG n es)))]) := by
  refine ct_of tyAll Try.func53 (by decide) rfl ?_
  conv => whnf
  refine ⟨_, ct21 n es, ?_⟩
  conv => whnf
  refine acond_split (fun h1 => ?_) (fun h1 => ?_)
  · have h1 := dec h1
    conv => whnf
    rw [if_neg h1]
    conv => whnf
    repeat' (first | exact trivial | exact rfl | refine And.intro ?_ ?_)
  have h1 : checkG n es = 0 := Decidable.not_not.1 (of_decide_eq_false h1)
  rw [if_pos h1]
  obtain ⟨N, rfl, hN, hes, hl, _⟩ := check_ok h1
  conv => whnf
  refine ⟨_, ct95 N es (by omega), ?_⟩
  conv => whnf
  repeat' (first | exact trivial | exact rfl | refine And.intro ?_ ?_)

set_option maxHeartbeats 1000000 in
theorem ct54 (n : Int) (es : Es) (l : List Int) (hll : l.length ≤ 1000000) : Ct Try.prog 54 [gA n es, .one (ints l)] (if readyE n es l = 0 then .tup [.agg [.c (i64 l.length), .row 0 (edgesR (indL l es))], .one (.c (i64 0))] else .tup [.agg [.c (i64 0), .c .nil], .one (.c (i64 (readyE n es l)))]) := by
  refine ct_of tyAll Try.func54 (by decide) rfl ?_
  conv => whnf
  refine ⟨_, ct86 n es l, ?_⟩
  conv => whnf
  refine acond_split (fun h1 => ?_) (fun h1 => ?_)
  · have h1 := dec h1
    conv => whnf
    rw [if_neg h1]
    conv => whnf
    repeat' (first | exact trivial | exact rfl | refine And.intro ?_ ?_)
  have h1 : readyE n es l = 0 := Decidable.not_not.1 (of_decide_eq_false h1)
  rw [if_pos h1]
  obtain ⟨hc, hne⟩ := ready_ok h1
  obtain ⟨N, rfl, hN, hes, hl, _⟩ := check_ok hc
  have hasc : l.Pairwise (· < ·) := asc_pairwise (nodes_in hne).2
  conv => whnf
  intro _
  conv => whnf
  intro _
  conv => whnf
  refine ⟨Nat, fun k => k ≤ es.length, fun k => ⟨(sk 1 (.c (ints l) :: (sk 2 (.p (.one (.lptr 4 0)) :: (sk 2 (.p (.one (.lptr 7 0)) :: (sk 17 (.c (edges es) :: (sk 0 (I es.length :: (sk 0 (I k :: (sk 31 []))))))))))))), [(4, [.c (i64 0), .c .nil]), (7, [.c (i64 l.length), .own 100 0])], [(100, (0, edgesR (indL l (es.take k))))]⟩, fun k => es.length - k, 0, by omega, ?_, fun k hk => ?_⟩
  · repeat' (first | exact trivial | exact rfl | refine And.intro ?_ ?_)
  have hk : k ≤ es.length := hk
  have hlen := indL_length l (es.take k)
  rw [List.length_take] at hlen
  conv => whnf
  refine acond_split (fun h2 => ?_) (fun h2 => ?_)
  · have h2 := dec h2
    conv => whnf
    have hlt : k < es.length := by omega
    have hstep := indL_succ l es k hlt
    refine ⟨es[k], by omega, List.getElem?_eq_getElem hlt, ?_⟩
    conv => whnf
    refine ⟨_, ct98 l hasc hll es[k].1, ?_⟩
    conv => whnf
    refine ⟨_, ct98 l hasc hll es[k].2, ?_⟩
    conv => whnf
    refine acond_split (fun h3 => ?_) (fun h3 => ?_)
    · have h3 : es[k].1 ∈ l := of_decide_eq_true h3
      conv => whnf
      refine acond_split (fun h4 => ?_) (fun h4 => ?_)
      · have h4 : es[k].2 ∈ l := of_decide_eq_true h4
        rw [if_pos ⟨h3, h4⟩] at hstep
        conv => whnf
        refine ⟨Int × Int, eC, [((posL l es[k].1 : Int), (posL l es[k].2 : Int))], rfl, by decide, rfl, ?_⟩
        conv => whnf
        refine ⟨[((posL l es[k].1 : Int), (posL l es[k].2 : Int))], rfl, by simp; omega, by simp; omega, ?_⟩
        conv => whnf
        refine ⟨_, wi _ (by omega) (by omega), ?_⟩
        conv => whnf
        refine ⟨k + 1, by show k + 1 ≤ es.length; omega, by show es.length - (k + 1) < es.length - k; omega, ?_⟩
        repeat' (first | exact trivial | exact rfl | refine And.intro ?_ ?_)
        show edgesR (indL l (es.take k) ++ [((posL l es[k].1 : Int), (posL l es[k].2 : Int))]) = edgesR (indL l (es.take (k + 1)))
        rw [hstep]
      · have h4 : ¬ es[k].2 ∈ l := of_decide_eq_false h4
        rw [if_neg fun h => h4 h.2, List.append_nil] at hstep
        conv => whnf
        refine ⟨_, wi _ (by omega) (by omega), ?_⟩
        conv => whnf
        refine ⟨k + 1, by show k + 1 ≤ es.length; omega, by show es.length - (k + 1) < es.length - k; omega, ?_⟩
        repeat' (first | exact trivial | exact rfl | refine And.intro ?_ ?_)
        show edgesR (indL l (es.take k)) = edgesR (indL l (es.take (k + 1)))
        rw [hstep]
    · have h3 : ¬ es[k].1 ∈ l := of_decide_eq_false h3
      rw [if_neg fun h => h3 h.1, List.append_nil] at hstep
      conv => whnf
      refine ⟨_, wi _ (by omega) (by omega), ?_⟩
      conv => whnf
      refine ⟨k + 1, by show k + 1 ≤ es.length; omega, by show es.length - (k + 1) < es.length - k; omega, ?_⟩
      repeat' (first | exact trivial | exact rfl | refine And.intro ?_ ?_)
      show edgesR (indL l (es.take k)) = edgesR (indL l (es.take (k + 1)))
      rw [hstep]
  · have h2 := ndec h2
    conv => whnf
    have hk' : k = es.length := by omega
    subst hk'
    rw [List.take_length]
    repeat' (first | exact trivial | exact rfl | refine And.intro ?_ ?_)
end Go.Fx

namespace Go.Fx
open Go.Proofs Gr
set_option maxRecDepth 100000

set_option maxHeartbeats 1000000 in
theorem ct56 (n : Nat) (hn : n ≤ 64) (es : Es) (hes : inR n es) (hl : es.length ≤ 1000000) : Ct Try.prog 56 [rA n es] (.p (.agg [.c (i64 n), .row 0 (pairsR (mkL n (swapE es)))])) := by
  refine ct_of tyAll Try.func56 (by decide) rfl ?_
  conv => whnf
  refine ⟨Nat, fun k => k ≤ es.length, fun k => ⟨(sk 1 (.p (.one (.lptr 1 0)) :: (sk 0 (.p (.one (.lptr 2 0)) :: (sk 0 (W 100 0 :: (sk 0 (I k :: (sk 33 []))))))))), [(1, [.c (i64 n), .c (prs es)]), (2, [.c (i64 0), .c .nil])], [(100, (0, pairsR (swapE (es.take k))))]⟩, fun k => es.length - k, 0, by omega, ?_, fun k hk => ?_⟩
  · repeat' (first | exact trivial | exact rfl | refine And.intro ?_ ?_)
  have hk : k ≤ es.length := hk
  have hsl : (swapE (es.take k)).length ≤ k := by unfold swapE; rw [List.length_map, List.length_take]; omega
  conv => whnf
  intro _
  conv => whnf
  refine acond_split (fun h1 => ?_) (fun h1 => ?_)
  · have h1 := dec h1
    conv => whnf
    have hlt : k < es.length := by omega
    refine draw_intro tyAll mixed 15 (by kernel_rfl) ?_
    conv => whnf
    refine ⟨es[k], by omega, List.getElem?_eq_getElem hlt, ?_⟩
    conv => whnf
    refine ⟨by omega, by omega, ?_⟩
    conv => whnf
    refine ⟨es[k], by omega, List.getElem?_eq_getElem hlt, ?_⟩
    conv => whnf
    refine ⟨by omega, by omega, ?_⟩
    conv => whnf
    refine ⟨Int × Int, eC, [(es[k].2, es[k].1)], rfl, by decide, rfl, ?_⟩
    conv => whnf
    refine ⟨[(es[k].2, es[k].1)], rfl, by simp; omega, by simp; omega, ?_⟩
    conv => whnf
    refine ⟨_, wi _ (by omega) (by omega), ?_⟩
    conv => whnf
    refine ⟨k + 1, by show k + 1 ≤ es.length; omega, by show es.length - (k + 1) < es.length - k; omega, ?_⟩
    repeat' (first | exact trivial | exact rfl | refine And.intro ?_ ?_)
    show pairsR (swapE (es.take k) ++ [(es[k].2, es[k].1)]) = pairsR (swapE (es.take (k + 1)))
    rw [swapE_succ _ _ hlt]
  · have h1 := ndec h1
    conv => whnf
    have hk' : k = es.length := by omega
    subst hk'
    rw [List.take_length]
    refine .inl ?_
    conv => whnf
    have hm := ct18 n (swapE es)
    rw [rmakeRv, if_neg (by unfold makeBad; rw [decide_eq_true_iff, show insideB n (swapE es) = true from (insideB_iff _ _).2 (swapE_in hes)]; simp; omega), Int.toNat_natCast] at hm
    refine ⟨_, hm, .inl (flat_rmk _ _), ?_⟩
    conv => whnf
    repeat' (first | exact trivial | exact rfl | refine And.intro ?_ ?_)

set_option maxHeartbeats 1000000 in
theorem ct57 (n : Nat) (es : Es) (l : List Int) (hasc : l.Pairwise (· < ·)) (hll : l.length ≤ 1000) : Ct Try.prog 57 [rA n es, .one (ints l)] (.p (.agg [.c (i64 l.length), .row 0 (pairsR (mkL l.length (indL l es)))])) := by
  refine ct_of tyAll Try.func57 (by decide) rfl ?_
  conv => whnf
  intro _
  conv => whnf
  refine ⟨Nat, fun i => i ≤ l.length, fun i => ⟨(sk 1 (.c (ints l) :: (sk 0 (.p (.one (.lptr 2 0)) :: (sk 1 (.p (.one (.lptr 4 0)) :: (sk 0 (.p (.one (.lptr 5 0)) :: (sk 0 (I i :: (sk 35 []))))))))))), [(2, [.c (i64 n), .c (prs es)]), (4, [.c (i64 0), .c .nil]), (5, [.c (i64 l.length), .own 100 0])], [(100, (0, pairsR (mkP l.length (indL l es) i 0)))]⟩, fun i => l.length - i, 0, by omega, ?_, fun i hi => ?_⟩
  · repeat' (first | exact trivial | exact rfl | refine And.intro ?_ ?_)
  have hi : i ≤ l.length := hi
  conv => whnf
  intro _
  conv => whnf
  refine acond_split (fun h1 => ?_) (fun h1 => ?_)
  · have h1 := dec h1
    conv => whnf
    have hil : i < l.length := by omega
    refine ⟨Nat, fun j => j ≤ l.length, fun j => ⟨(sk 1 (.c (ints l) :: (sk 0 (.p (.one (.lptr 2 0)) :: (sk 1 (.p (.one (.lptr 4 0)) :: (sk 0 (.p (.one (.lptr 5 0)) :: (sk 0 (I i :: (sk 0 (I j :: (sk 34 []))))))))))))), [(2, [.c (i64 n), .c (prs es)]), (4, [.c (i64 0), .c .nil]), (5, [.c (i64 l.length), .own 100 0])], [(100, (0, pairsR (mkP l.length (indL l es) i j)))]⟩, fun j => l.length - j, 0, by omega, ?_, fun j hj => ?_⟩
    · repeat' (first | exact trivial | exact rfl | refine And.intro ?_ ?_)
    have hj : j ≤ l.length := hj
    conv => whnf
    intro _
    conv => whnf
    refine acond_split (fun h2 => ?_) (fun h2 => ?_)
    · have h2 := dec h2
      conv => whnf
      have hjl : j < l.length := by omega
      refine draw_intro tyAll mixed 9 (by kernel_rfl) ?_
      conv => whnf
      refine ⟨l[i], by omega, List.getElem?_eq_getElem hil, ?_⟩
      conv => whnf
      refine ⟨l[j], by omega, List.getElem?_eq_getElem hjl, ?_⟩
      conv => whnf
      refine ⟨_, ct75 n es l[i] l[j], ?_⟩
      conv => whnf
      have hm := indL_mem hasc (es := es) hil hjl
      have hpl := mkP_length l.length (indL l es) i j
      have hm2 : i * l.length ≤ 1000 * 1000 := Nat.mul_le_mul (by omega) hll
      refine acond_split (fun h3 => ?_) (fun h3 => ?_)
      · have h3 : (l[i], l[j]) ∈ es := of_decide_eq_true h3
        conv => whnf
        refine ⟨Int × Int, eC, [((i : Int), (j : Int))], rfl, by decide, rfl, ?_⟩
        conv => whnf
        refine ⟨[((i : Int), (j : Int))], rfl, by simp; omega, by simp; omega, ?_⟩
        conv => whnf
        refine ⟨_, wi _ (by omega) (by omega), ?_⟩
        conv => whnf
        refine ⟨j + 1, by show j + 1 ≤ l.length; omega, by show l.length - (j + 1) < l.length - j; omega, ?_⟩
        repeat' (first | exact trivial | exact rfl | refine And.intro ?_ ?_)
        show pairsR (mkP l.length (indL l es) i j ++ [((i : Int), (j : Int))]) = pairsR (mkP l.length (indL l es) i (j + 1))
        rw [mkP_succ, if_pos (hm.2 h3)]
      · have h3 : ¬ (l[i], l[j]) ∈ es := of_decide_eq_false h3
        conv => whnf
        refine ⟨_, wi _ (by omega) (by omega), ?_⟩
        conv => whnf
        refine ⟨j + 1, by show j + 1 ≤ l.length; omega, by show l.length - (j + 1) < l.length - j; omega, ?_⟩
        repeat' (first | exact trivial | exact rfl | refine And.intro ?_ ?_)
        show pairsR (mkP l.length (indL l es) i j) = pairsR (mkP l.length (indL l es) i (j + 1))
        rw [mkP_succ, if_neg (fun h => h3 (hm.1 h)), List.append_nil]
    · have h2 := ndec h2
      conv => whnf
      refine ⟨_, wi _ (by omega) (by omega), ?_⟩
      conv => whnf
      have e : j = l.length := by omega
      subst e
      refine ⟨i + 1, by show i + 1 ≤ l.length; omega, by show l.length - (i + 1) < l.length - i; omega, ?_⟩
      repeat' (first | exact trivial | exact rfl | refine And.intro ?_ ?_)
      show pairsR (mkP l.length (indL l es) i l.length) = pairsR (mkP l.length (indL l es) (i + 1) 0)
      rw [mkP_next]
  · have h1 := ndec h1
    conv => whnf
    have e : i = l.length := by omega
    subst e
    repeat' (first | exact trivial | exact rfl | refine And.intro ?_ ?_)
    show pairsR (mkL l.length (indL l es)) = pairsR (mkP l.length (indL l es) l.length 0)
    rw [mkP_all]
end Go.Fx

namespace Go.Fx
open Go.Proofs Gr
set_option maxRecDepth 100000

theorem flat_rgraph (m : Int) (es : Es) : FlatRv (.p (.agg [.c (i64 m), .row 0 (pairsR es)])) := by
  intro x hx
  exact flat_rmk m es (.agg [.c (i64 m), .row 0 (pairsR es)]) (by simp) x hx

set_option maxHeartbeats 2000000 in
theorem ct8 (n : Int) (es : Es) (a : Int) : Ct Try.prog 8 [gA n es, .one (u8 a)] (.c (.bool true)) := by
  refine ct_of tyAll Try.func8 (by decide) rfl ?_
  conv => whnf
  refine ⟨_, ct14, ?_⟩
  conv => whnf
  refine ⟨_, ct22 n es, ?_⟩
  conv => whnf
  refine acond_split (fun h1 => ?_) (fun h1 => ?_)
  · have h1 : fineB n es = false := Eq.mp (Bool.not_eq_true' _) h1
    conv => whnf
    refine ⟨_, ct14, ?_⟩
    conv => whnf
    repeat' (first | exact trivial | exact rfl | refine And.intro ?_ ?_)
  have h1 : fineB n es = true := Eq.mp (Bool.not_eq_false' _) h1
  obtain ⟨N, rfl, hN, hes, hs, hl, hc⟩ := fine_ok h1
  conv => whnf
  have h36 := ct36 N es a
  rw [show (min (N : Int) 8).toNat = N by omega] at h36
  have hll := chosen_lt a N
  have hasc := chosen_asc a N
  have hcl := chosen_length a N
  obtain ⟨l, hle⟩ : ∃ l, l = chosenL a N := ⟨_, rfl⟩
  rw [← hle] at h36 hll hasc hcl
  clear hle
  have hr := ready_of hc hll hasc
  have h53 := ct53 N es
  rw [if_pos hc] at h53
  have h54 := ct54 N es l (by omega)
  rw [if_pos hr] at h54
  have h56 := ct56 N (by omega) es hes (by omega)
  rw [revL_mk hes hs] at h56
  have h57 := ct57 N es l hasc (by omega)
  rw [mkL_fix (indL_in hasc es) (indL_sorted hasc hs)] at h57
  have hrl := revL_length es
  have hil := indL_length l es
  obtain ⟨rv, hrv⟩ : ∃ rv, rv = revL es := ⟨_, rfl⟩
  obtain ⟨ind, hind⟩ : ∃ ind, ind = indL l es := ⟨_, rfl⟩
  rw [← hrv] at h53 h56 hrl
  rw [← hind] at h54 h57 hil
  clear hrv hind
  refine ⟨_, h36, ?_⟩
  conv => whnf
  refine ⟨_, ct24 N es (by omega), ?_⟩
  conv => whnf
  refine .inl ?_
  conv => whnf
  refine ⟨_, h53, .inl (flat_mk _ _), ?_⟩
  conv => whnf
  refine ⟨_, ct24 N es (by omega), ?_⟩
  conv => whnf
  refine .inl ?_
  conv => whnf
  refine ⟨_, ct55 l (by omega), .inl (fun x i => flat_int _ _), ?_⟩
  conv => whnf
  refine .inl ?_
  conv => whnf
  refine ⟨_, h54, .inl (flat_mk _ _), ?_⟩
  conv => whnf
  refine draw_intro tyAll mixed 22 (by kernel_rfl) ?_
  conv => whnf
  refine ⟨_, ct26 N es (by omega), ?_⟩
  conv => whnf
  refine ⟨_, h56, .inl (flat_rgraph _ _), ?_⟩
  conv => whnf
  refine ⟨_, ct20 N N rv rv (by omega), .inl (flat_bool _), ?_⟩
  conv => whnf
  rw [show decide ((N : Int) = N ∧ rv = rv) = true from decide_eq_true ⟨rfl, rfl⟩]
  conv => whnf
  refine ⟨_, ct26 N es (by omega), ?_⟩
  conv => whnf
  refine ⟨_, h57, .inl (flat_rgraph _ _), ?_⟩
  conv => whnf
  refine ⟨_, ct20 l.length l.length ind ind (by omega), .inl (flat_bool _), ?_⟩
  conv => whnf
  rw [show decide ((l.length : Int) = l.length ∧ ind = ind) = true from decide_eq_true ⟨rfl, rfl⟩]
  conv => whnf
  repeat' (first | exact trivial | exact rfl | refine And.intro ?_ ?_)
end Go.Fx
