/- The engine of the walks: abstract states and their laws. -/
import Derived.Test.YtoajmkplaognnaaK4
set_option linter.unusedVariables false
set_option linter.unusedSimpArgs false
set_option linter.unusedSectionVars false
namespace Go.Fx
open Go.Proofs Gr
set_option maxRecDepth 100000

theorem map_set (n : Nat) {α : Type} (S : Nat → α) (i : Nat) (x : α) : ((List.range n).map S).set i x = (List.range n).map (fun b => if b = i then x else S b) := by
  apply List.ext_getElem (by simp)
  intro j h1 h2
  simp only [List.getElem_set, List.getElem_map, List.getElem_range]
  by_cases e : i = j
  · subst e; simp
  · rw [if_neg e, if_neg (Ne.symm e)]
abbrev tb (n : Nat) {α : Type} (S : Nat → α) : List α := (List.range n).map S
theorem tb_get {n i : Nat} {α : Type} {S : Nat → α} (h : i < n) : (tb n S)[i]? = some (S i) := by simp [h]
def unseen (n : Nat) (S : Nat → Bool) : Nat := (List.range n).countP fun b => !S b
theorem unseen_set {n i : Nat} {S : Nat → Bool} (hi : i < n) (h : S i = false) : unseen n (fun b => if b = i then true else S b) + 1 = unseen n S := by
  unfold unseen
  induction n with
  | zero => omega
  | succ n ih =>
    rw [List.range_succ, List.countP_append, List.countP_append]
    by_cases e : i = n
    · subst e
      have : (List.range i).countP (fun b => !(if b = i then true else S b)) = (List.range i).countP (fun b => !S b) := by
        refine List.countP_congr fun b hb => ?_
        have := List.mem_range.1 hb
        rw [if_neg (by omega)]
      rw [this]
      simp [h]
    · have h3 := ih (by omega)
      have h2 : (fun b => if b = i then true else S b) n = S n := if_neg (Ne.symm e)
      rw [List.countP_singleton, List.countP_singleton, h2, ← h3]
      exact Nat.add_right_comm _ _ _
theorem unseen_le (n : Nat) (S : Nat → Bool) : unseen n S ≤ n := by
  have := List.countP_le_length (p := fun b => !S b) (l := List.range n)
  simpa [unseen] using this

/-- What a search has found holds. -/
structure BfsI (n : Nat) (es : Es) (src : List Int) (S : Nat → Bool) (q : List Int) : Prop where
  sound : ∀ b, b < n → S b = true → ∃ a ∈ src, ∃ k, within es k a (b : Int) = true
  srcs : ∀ a ∈ src, S a.toNat = true
  queue : ∀ x ∈ q, (0 ≤ x ∧ x < n) ∧ S x.toNat = true
  len : q.length + unseen n S ≤ src.length + n

theorem nextL_get {n : Nat} {es : Es} {k : Int} (h0 : 0 ≤ k) (h1 : k < n) : (nextL n es)[k.toNat]? = some ((es.filter fun e => decide (e.1 = k)).map (·.2)) := by
  unfold nextL
  rw [List.getElem?_map, List.getElem?_range (by omega)]
  simp only [Option.map_some, Option.some.injEq]
  rw [Int.toNat_of_nonneg h0]

theorem bfs_done {n : Nat} {es : Es} {src : List Int} {S : Nat → Bool} (hes : inR n es) (hsrc : ∀ a ∈ src, 0 ≤ a ∧ a < (n : Int)) (h : BfsI n es src S []) (hd : ∀ e ∈ es, S e.1.toNat = true → S e.2.toNat = true) : tb n S = reachL n es src := by
  unfold reachL
  refine List.map_congr_left fun b hb => ?_
  have hb := List.mem_range.1 hb
  have key : ∀ k, ∀ a ∈ src, ∀ c : Int, within es k a c = true → S c.toNat = true := by
    intro k
    induction k with
    | zero => intro a ha c hw; have : a = c := by simpa [within] using hw
              subst this; exact h.srcs a ha
    | succ k ih =>
      intro a ha c hw
      rcases within_inv hw with hw | ⟨e, he, h1, rfl⟩
      · exact ih a ha c hw
      · exact hd e he (ih a ha _ h1)
  cases hS : S b with
  | true =>
    obtain ⟨a, ha, k, hk⟩ := h.sound b hb hS
    exact (List.any_eq_true.2 ⟨a, ha, within_n (b := (b : Int)) hes (hsrc a ha) hk⟩).symm
  | false =>
    symm
    rw [List.any_eq_false]
    intro a ha hw
    have := key n a ha b hw
    simp [hS] at this

theorem ct88 (n : Nat) (hn : n ≤ 64) (es : Es) (hes : inR n es) (hl : es.length ≤ 1000000) (src : List Int) (hsrc : ∀ a ∈ src, 0 ≤ a ∧ a < (n : Int)) (hsl : src.length ≤ 1000000) :
    Ct Try.prog 88 [gA n es, .one (ints src)] (.row (boolsR (reachL n es src))) := by
  refine ct_of tyAll Try.func88 (by decide) rfl ?_
  conv => whnf
  refine draw_intro tyAll mixed 7 (by kernel_rfl) ?_
  conv => whnf
  refine ⟨_, ct84 n hn es hes hl, ?_⟩
  conv => whnf
  refine ⟨rfl, by omega, by omega, by omega, by omega, Bool, fun b _ => .bool b, false, zok1 (fun _ _ => rfl), ?_⟩
  conv => whnf
  refine ⟨_, ct55 src (by omega), ?_⟩
  conv => whnf
  intro hlen
  conv => whnf
  refine ⟨Nat, fun k => k ≤ src.length, fun k => ⟨(sk 5 (W 14 0 :: (sk 0 (W 17 0 :: (sk 0 (W 19 0 :: (sk 12 (W 19 0 :: (sk 0 (I src.length :: (sk 0 (I k :: (sk 38 []))))))))))))), [], [(14, (0, tableR (nextL n es))), (17, (0, boolsR (tb n fun b => (src.take k).any fun a => decide (b = a.toNat)))), (19, (0, intsR src))]⟩, fun k => src.length - k, 0, by simp, ?_, fun k hk => ?_⟩
  · repeat' (first | exact trivial | exact rfl | refine And.intro ?_ ?_)
    show boolsR (List.replicate _ false) = boolsR _
    simp [tb, List.map_const']
  conv => whnf
  refine acond_split (fun h1 => ?_) (fun h1 => ?_)
  · have h1 := dec h1
    have hlt : k < src.length := by simp at h1; omega
    have hr := hsrc _ (List.getElem_mem hlt)
    conv => whnf
    refine ⟨by omega, by simp; omega, ?_⟩
    conv => whnf
    refine ⟨src[k], List.getElem?_eq_getElem hlt, ?_⟩
    conv => whnf
    refine ⟨by omega, by simp; omega, ?_⟩
    conv => whnf
    refine ⟨_, true, tb_get (by omega), rfl, ?_⟩
    conv => whnf
    refine ⟨_, wi _ (by omega) (by omega), ?_⟩
    conv => whnf
    refine ⟨k + 1, by show k + 1 ≤ src.length; omega, by show src.length - (k + 1) < src.length - k; omega, ?_⟩
    repeat' (first | exact trivial | exact rfl | refine And.intro ?_ ?_)
    show boolsR (List.set _ _ true) = boolsR _
    rw [map_set]
    congr 1
    refine List.map_congr_left fun b hb => ?_
    rw [List.take_succ_eq_append_getElem hlt, List.any_append]
    by_cases e : b = src[k].toNat
    · simp [e]
    · simp [e]
  have h1 := ndec h1
  have hk : k = src.length := by simp at h1; have hk : k ≤ src.length := hk; omega
  subst hk
  -- the search
  conv => whnf
  refine ⟨(Nat → Bool) × List Int, fun i => BfsI n es src i.1 i.2 ∧ ∀ e ∈ es, i.1 e.1.toNat = true → e.1 ∉ i.2 → i.1 e.2.toNat = true,
    fun i => ⟨(sk 5 (W 14 0 :: (sk 0 (W 17 0 :: (sk 0 (W 19 0 :: (sk 53 []))))))), [], [(14, (0, tableR (nextL n es))), (17, (0, boolsR (tb n i.1))), (19, (0, intsR i.2))]⟩, fun i => 2 * unseen n i.1 + i.2.length,
    (fun b => (src.take src.length).any fun a => decide (b = a.toNat), src), ⟨⟨fun b hb hs => ?_, fun a ha => ?_, fun x hx => ?_, ?_⟩, fun e he h2 h3 => ?_⟩, ?_, fun i hi => ?_⟩
  · rw [List.take_length] at hs
    obtain ⟨a, ha, hd⟩ := List.any_eq_true.1 hs
    have hd : b = a.toNat := by simpa using hd
    have := hsrc a ha
    exact ⟨a, ha, 0, by simp [within]; omega⟩
  · rw [List.take_length]
    exact List.any_eq_true.2 ⟨a, ha, by simp⟩
  · refine ⟨hsrc x hx, ?_⟩
    rw [List.take_length]
    exact List.any_eq_true.2 ⟨x, hx, by simp⟩
  · have := unseen_le n (fun b => (src.take src.length).any fun a => decide (b = a.toNat))
    simp only
    omega
  · exfalso
    rw [List.take_length] at h2
    obtain ⟨a, ha, hd⟩ := List.any_eq_true.1 h2
    have hd : e.1.toNat = a.toNat := by simpa using hd
    have h4 := hsrc a ha
    have h5 := (hes e he).1
    exact h3 (by rw [show e.1 = a by omega]; exact ha)
  · repeat' (first | exact trivial | exact rfl | refine And.intro ?_ ?_)
  obtain ⟨S, q⟩ := i
  obtain ⟨B, hd⟩ := hi
  simp only at B hd
  conv => whnf
  intro _
  conv => whnf
  refine acond_split (fun h2 => ?_) (fun h2 => ?_)
  · have h2 := dec h2
    obtain ⟨x, q, rfl⟩ : ∃ x q', q = x :: q' := by
      cases q with
      | nil => simp at h2
      | cons x q => exact ⟨x, q, rfl⟩
    obtain ⟨hx, hSx⟩ := B.queue x List.mem_cons_self
    have hqb := B.len
    simp only [List.length_cons] at hqb
    conv => whnf
    refine ⟨by omega, by simp, ?_⟩
    conv => whnf
    refine ⟨x, rfl, ?_⟩
    conv => whnf
    refine ⟨by omega, by simp; omega, by simp, ?_⟩
    conv => whnf
    refine ⟨by omega, by simp [nextL]; omega, ?_⟩
    conv => whnf
    refine ⟨_, nextL_get hx.1 hx.2, ?_⟩
    conv => whnf
    intro _
    conv => whnf
    -- the nodes behind x
    obtain ⟨sc, hsc⟩ : ∃ sc, sc = ((es.filter fun e => decide (e.1 = x)).map (·.2)) := ⟨_, rfl⟩
    have hscm : ∀ y ∈ sc, ∃ e ∈ es, e.1 = x ∧ e.2 = y := fun y hy => by
      rw [hsc] at hy
      obtain ⟨e, he, rfl⟩ := List.mem_map.1 hy
      obtain ⟨h3, h4⟩ := List.mem_filter.1 he
      exact ⟨e, h3, by simpa using h4, rfl⟩
    have hscl : sc.length ≤ es.length := by rw [hsc, List.length_map]; exact List.length_filter_le _ _
    rw [← hsc]
    refine ⟨Nat × (Nat → Bool) × List Int, fun i => i.1 ≤ sc.length ∧ BfsI n es src i.2.1 i.2.2 ∧ (∀ e ∈ es, i.2.1 e.1.toNat = true → e.1 ∉ i.2.2 → e.1 ≠ x → i.2.1 e.2.toNat = true) ∧ (∀ y ∈ sc.take i.1, i.2.1 y.toNat = true) ∧ i.2.1 x.toNat = true ∧ 2 * unseen n i.2.1 + i.2.2.length ≤ 2 * unseen n S + q.length,
      fun i => ⟨(sk 5 (W 14 0 :: (sk 0 (W 17 0 :: (sk 0 (W 19 0 :: (sk 2 (I x :: (sk 30 (.c (ints sc) :: (sk 0 (I sc.length :: (sk 0 (I i.1 :: (sk 17 []))))))))))))))), [], [(14, (0, tableR (nextL n es))), (17, (0, boolsR (tb n i.2.1))), (19, (0, intsR i.2.2))]⟩, fun i => sc.length - i.1,
      (0, S, q), ⟨by simp, ⟨B.sound, B.srcs, fun y hy => B.queue y (List.mem_cons_of_mem _ hy), by simp only; omega⟩, fun e he h3 h4 h5 => hd e he h3 (by simp [h5]; exact h4), by simp, hSx, Nat.le_refl _⟩, ?_, fun i hi => ?_⟩
    · repeat' (first | exact trivial | exact rfl | refine And.intro ?_ ?_)
      show intsR (List.drop 1 (List.take _ (x :: q))) = intsR q
      simp
    obtain ⟨j, S1, q1⟩ := i
    obtain ⟨hj, B1, hd1, hs1, hx1, hm⟩ := hi
    simp only at hj B1 hd1 hs1 hx1 hm
    conv => whnf
    refine acond_split (fun h3 => ?_) (fun h3 => ?_)
    · have h3 := dec h3
      have hlt : j < sc.length := by omega
      obtain ⟨e, he, he1, he2⟩ := hscm sc[j] (List.getElem_mem hlt)
      have hyr := (hes e he).2
      rw [he2] at hyr
      conv => whnf
      refine ⟨sc[j], by omega, List.getElem?_eq_getElem hlt, ?_⟩
      conv => whnf
      refine ⟨by omega, by simp; omega, ?_⟩
      conv => whnf
      refine ⟨_, tb_get (by omega), ?_⟩
      conv => whnf
      have htake : ∀ y ∈ sc.take (j + 1), y ∈ sc.take j ∨ y = sc[j] := fun y hy => by
        rw [List.take_succ_eq_append_getElem hlt] at hy
        rcases List.mem_append.1 hy with h | h
        · exact .inl h
        · exact .inr (by simpa using h)
      refine acond_split (fun h4 => ?_) (fun h4 => ?_)
      · have h4 : S1 sc[j].toNat = false := by simpa using h4
        have hus := unseen_set (n := n) (i := sc[j].toNat) (S := S1) (by omega) h4
        have hql := B1.len
        conv => whnf
        refine ⟨by omega, by simp; omega, ?_⟩
        conv => whnf
        refine ⟨_, true, tb_get (by omega), rfl, ?_⟩
        conv => whnf
        refine ⟨Int, fun n _ => i64 n, [sc[j]], rfl, by decide, rfl, ?_⟩
        conv => whnf
        refine ⟨[sc[j]], rfl, by simp; omega, by simp; omega, ?_⟩
        conv => whnf
        refine ⟨_, wi _ (by omega) (by omega), ?_⟩
        conv => whnf
        refine ⟨(j + 1, (fun b => if b = sc[j].toNat then true else S1 b), q1 ++ [sc[j]]), ⟨by simp only; omega, ⟨fun b hb hs => ?_, fun a ha => ?_, fun y hy => ?_, ?_⟩, fun e' he' h5 h6 h7 => ?_, fun y hy => ?_, ?_, ?_⟩, by show sc.length - (j + 1) < sc.length - j; omega, ?_⟩
        · simp only at hs
          by_cases eb : b = sc[j].toNat
          · obtain ⟨a, ha, k, hk⟩ := B1.sound x.toNat (by omega) hx1
            rw [Int.toNat_of_nonneg hx.1, ← he1] at hk
            have := within_step he hk
            rw [he2] at this
            exact ⟨a, ha, k + 1, by rw [eb, Int.toNat_of_nonneg hyr.1]; exact this⟩
          · rw [if_neg eb] at hs
            exact B1.sound b hb hs
        · simp only
          split
          · rfl
          · exact B1.srcs a ha
        · rcases List.mem_append.1 hy with hy | hy
          · refine ⟨(B1.queue y hy).1, ?_⟩
            simp only
            split
            · rfl
            · exact (B1.queue y hy).2
          · have hy : y = sc[j] := by simpa using hy
            subst hy
            exact ⟨hyr, by simp⟩
        · simp only [List.length_append, List.length_cons, List.length_nil]
          omega
        · simp only at h5 h6 ⊢
          have h6' : e'.1 ∉ q1 ∧ e'.1 ≠ sc[j] := by simpa [not_or] using h6
          have hr' := (hes e' he').1
          rw [if_neg (by omega)] at h5
          have := hd1 e' he' h5 h6'.1 h7
          split
          · rfl
          · exact this
        · simp only
          rcases htake y hy with hy | hy
          · split
            · rfl
            · exact hs1 y hy
          · rw [if_pos (by rw [hy])]
        · simp only
          split
          · rfl
          · exact hx1
        · simp only [List.length_append, List.length_cons, List.length_nil]
          omega
        · repeat' (first | exact trivial | exact rfl | refine And.intro ?_ ?_)
          show boolsR (List.set _ _ true) = boolsR _
          rw [map_set]
      · have h4 : S1 sc[j].toNat = true := by simpa using h4
        conv => whnf
        refine ⟨_, wi _ (by omega) (by omega), ?_⟩
        conv => whnf
        refine ⟨(j + 1, S1, q1), ⟨by simp only; omega, B1, hd1, fun y hy => ?_, hx1, hm⟩, by show sc.length - (j + 1) < sc.length - j; omega, ?_⟩
        · rcases htake y hy with hy | hy
          · exact hs1 y hy
          · rw [hy]; exact h4
        · repeat' (first | exact trivial | exact rfl | refine And.intro ?_ ?_)
    · have h3 := ndec h3
      rw [List.take_of_length_le (by omega)] at hs1
      conv => whnf
      refine ⟨(S1, q1), ⟨B1, fun e he h4 h5 => ?_⟩, by show 2 * unseen n S1 + q1.length < 2 * unseen n S + (q.length + 1); omega, ?_⟩
      · simp only at h4 h5 ⊢
        by_cases ex : e.1 = x
        · refine hs1 e.2 ?_
          rw [hsc]
          exact List.mem_map.2 ⟨e, List.mem_filter.2 ⟨he, by simp [ex]⟩, rfl⟩
        · exact hd1 e he h4 h5 ex
      · repeat' (first | exact trivial | exact rfl | refine And.intro ?_ ?_)
  · have h2 := ndec h2
    have hq : q = [] := by
      cases q with
      | nil => rfl
      | cons x q => simp at h2
    subst hq
    conv => whnf
    refine ⟨?_, trivial⟩
    show boolsR _ = boolsR (tb n S)
    rw [bfs_done hes hsrc B (fun e he h3 => hd e he h3 (by simp))]
end Go.Fx

namespace Go.Fx
open Go.Proofs Gr
set_option maxRecDepth 100000

abbrev btable (xs : List (List Bool)) : CVal := .sl (List Bool) 1 (fun r _ => bools r) xs
abbrev btableR (xs : List (List Bool)) : Row := ⟨List Bool, 1, fun r _ => bools r, 101, xs⟩
def closureL (n : Nat) (es : Es) : List (List Bool) := (List.range n).map fun (a : Nat) => reachL n es [(a : Int)]

theorem ct101 (n : Nat) (hn : n ≤ 64) (es : Es) (hes : inR n es) (hl : es.length ≤ 1000000) : Ct Try.prog 101 [gA n es] (.row (btableR (closureL n es))) := by
  refine ct_of tyAll Try.func101 (by decide) rfl ?_
  conv => whnf
  refine ⟨rfl, by omega, by omega, by omega, by omega, List Bool, fun r _ => bools r, [], zok1 (fun _ _ => rep_nil_sl), ?_⟩
  conv => whnf
  intro hlen
  conv => whnf
  refine ⟨Nat, fun k => k ≤ n, fun k => ⟨(sk 1 (.p (.one (.lptr 1 0)) :: (sk 1 (W 7 0 :: (sk 5 (I n :: (sk 0 (I k :: (sk 11 []))))))))), [(1, [.c (i64 n), .c (edges es)])], [(7, (0, btableR (tb n fun b => if b < k then reachL n es [(b : Int)] else [])))]⟩, fun k => n - k, 0, by omega, ?_, fun k hk => ?_⟩
  · repeat' (first | exact trivial | exact rfl | refine And.intro ?_ ?_)
    · show i64 (List.replicate _ _).length = i64 n
      simp
    · show btableR (List.replicate _ []) = btableR _
      simp [tb, List.map_const']
  conv => whnf
  refine acond_split (fun h1 => ?_) (fun h1 => ?_)
  · have h1 := dec h1
    have hlt : k < n := by omega
    conv => whnf
    refine ⟨Int, fun n _ => i64 n, [(k : Int)], rfl, by decide, rfl, ?_⟩
    conv => whnf
    refine .inl ?_
    conv => whnf
    refine ⟨_, ct88 n hn es hes hl [(k : Int)] (by intro a ha; have : a = k := (by simpa using ha); omega) (by simp), .inl fun x _ => flat_bool x, ?_⟩
    conv => whnf
    refine ⟨by omega, by simp; omega, ?_⟩
    conv => whnf
    refine ⟨_, reachL n es [(k : Int)], tb_get (by simpa using hlt), rfl, ?_⟩
    conv => whnf
    refine ⟨_, wi _ (by omega) (by omega), ?_⟩
    conv => whnf
    refine ⟨k + 1, by show k + 1 ≤ n; omega, by show n - (k + 1) < n - k; omega, ?_⟩
    repeat' (first | exact trivial | exact rfl | refine And.intro ?_ ?_)
    show btableR (List.set _ _ _) = btableR _
    rw [map_set]
    congr 1
    refine List.map_congr_left fun b hb => ?_
    by_cases e : b = k
    · subst e; simp
    · have : (k : Int).toNat = k := rfl
      rw [this, if_neg e]
      by_cases e2 : b < k
      · rw [if_pos e2, if_pos (by omega)]
      · rw [if_neg e2, if_neg (by omega)]
  · have h1 := ndec h1
    have hk : k ≤ n := hk
    conv => whnf
    refine ⟨?_, trivial⟩
    show btableR (closureL n es) = btableR _
    congr 1
    refine List.map_congr_left fun b hb => ?_
    have := List.mem_range.1 hb
    rw [if_pos (by omega)]
end Go.Fx

namespace Go.Fx
open Go.Proofs Gr
set_option maxRecDepth 100000
set_option maxHeartbeats 2000000

theorem closureL_get {n : Nat} {es : Es} {a : Nat} (h : a < n) : (closureL n es)[a]? = some (reachL n es [(a : Int)]) := by simp [closureL, h]
theorem take_range_filter (p : Nat → Bool) (j : Nat) : (List.range (j + 1)).filter p = (List.range j).filter p ++ if p j then [j] else [] := by
  rw [List.range_succ, List.filter_append]
  congr 1
  cases h : p j <;> simp [h]

theorem ct89 (n : Nat) (hn : n ≤ 64) (es : Es) (hes : inR n es) (hl : es.length ≤ 1000000) : Ct Try.prog 89 [gA n es] (.tup [.one (.row 0 (tableR (compL n es))), .one (.row 1 (intsR (ofL n es)))]) := by
  refine ct_of tyAll Try.func89 (by decide) rfl ?_
  conv => whnf
  refine draw_intro tyAll mixed 7 (by kernel_rfl) ?_
  conv => whnf
  obtain ⟨cl, hcl⟩ : ∃ cl, cl = closureL n es := ⟨_, rfl⟩
  have h101 := ct101 n hn es hes hl
  rw [← hcl] at h101
  refine ⟨_, h101, ?_⟩
  conv => whnf
  refine ⟨rfl, by omega, by omega, by omega, by omega, Int, fun n _ => i64 n, 0, zok1 (fun _ _ => rfl), ?_⟩
  conv => whnf
  intro hlen
  conv => whnf
  refine ⟨Nat, fun k => k ≤ n, fun k => ⟨(sk 1 (.p (.one (.lptr 1 0)) :: (sk 2 (W 12 0 :: (sk 0 (W 15 0 :: (sk 11 (I n :: (sk 0 (I k :: (sk 55 []))))))))))), [(1, [.c (i64 n), .c (edges es)])],
    [(12, (0, btableR cl)), (15, (0, intsR (tb n fun b => if b < k then -1 else 0)))]⟩, fun k => n - k, 0, by omega, ?_, fun k hk => ?_⟩
  · repeat' (first | exact trivial | exact rfl | refine And.intro ?_ ?_)
    · show i64 (List.replicate _ _).length = i64 n
      simp
    · show intsR (List.replicate _ 0) = intsR _
      simp [tb, List.map_const']
  conv => whnf
  refine acond_split (fun h1 => ?_) (fun h1 => ?_)
  · have h1 := dec h1
    have hlt : k < n := by omega
    conv => whnf
    refine ⟨by omega, by simp; omega, ?_⟩
    conv => whnf
    refine ⟨_, -1, tb_get (by simpa using hlt), rfl, ?_⟩
    conv => whnf
    refine ⟨_, wi _ (by omega) (by omega), ?_⟩
    conv => whnf
    refine ⟨k + 1, by show k + 1 ≤ n; omega, by show n - (k + 1) < n - k; omega, ?_⟩
    repeat' (first | exact trivial | exact rfl | refine And.intro ?_ ?_)
    show intsR (List.set _ _ _) = intsR _
    rw [map_set]
    congr 1
    refine List.map_congr_left fun b hb => ?_
    have : (k : Int).toNat = k := rfl
    rw [this]
    by_cases e : b = k
    · subst e; simp
    · rw [if_neg e]
      by_cases e2 : b < k
      · rw [if_pos e2, if_pos (by omega)]
      · rw [if_neg e2, if_neg (by omega)]
  have h1 := ndec h1
  have hk : k = n := by have hk : k ≤ n := hk; omega
  subst hk
  conv => whnf
  intro _
  conv => whnf
  refine ⟨Nat × (Nat → Int) × List (List Int), fun x => x.1 ≤ k ∧ (∀ b, b < k → x.2.1 b = ofK k es x.1 b) ∧ x.2.2 = (reps k es x.1).map (cls k es), fun x => ⟨(sk 1 (.p (.one (.lptr 1 0)) :: (sk 2 (W 12 0 :: (sk 0 (W 15 0 :: (sk 1 (W 100 0 :: (sk 18 (I k :: (sk 0 (I x.1 :: (sk 46 []))))))))))))), [(1, [.c (i64 k), .c (edges es)])],
    [(12, (0, btableR cl)), (15, (0, intsR (tb k x.2.1))), (100, (0, tableR x.2.2))]⟩, fun x => k - x.1, (0, ofK k es 0, []), ⟨by simp, fun _ _ => rfl, rfl⟩, ?_, fun x hx => ?_⟩
  · repeat' (first | exact trivial | exact rfl | refine And.intro ?_ ?_)
    · show i64 (tb k _).length = i64 k
      simp
    · show intsR _ = intsR _
      congr 1
      refine List.map_congr_left fun b hb => ?_
      rw [if_pos (List.mem_range.1 hb)]
      rfl
  obtain ⟨i, of, out⟩ := x
  obtain ⟨hi, hof, hout⟩ := hx
  simp only at hi hof hout
  conv => whnf
  refine acond_split (fun h2 => ?_) (fun h2 => ?_)
  · have h2 := dec h2
    have hlt : i < k := by omega
    have hrl := reps_le k es i
    conv => whnf
    refine ⟨by omega, by simp; omega, ?_⟩
    conv => whnf
    refine ⟨_, tb_get (by simpa using hlt), ?_⟩
    conv => whnf
    refine acond_split (fun h3 => ?_) (fun h3 => ?_)
    · have h3 : (0 : Int) ≤ of i := dec h3
      rw [hof i hlt] at h3
      have hr : isRep k es i = false := by
        cases hr : isRep k es i with
        | false => rfl
        | true => have := (rep_of_neg hes hlt).2 hr; omega
      conv => whnf
      refine ⟨_, wi _ (by omega) (by omega), ?_⟩
      conv => whnf
      refine ⟨(i + 1, of, out), ⟨by show i + 1 ≤ k; omega, ?_, ?_⟩, by show k - (i + 1) < k - i; omega, ?_⟩
      · intro b hb
        show of b = ofK k es (i + 1) b
        rw [hof b hb]
        exact (ofK_skip hr).symm
      · show out = _
        rw [hout, comp_skip hr]
      · repeat' (first | exact trivial | exact rfl | refine And.intro ?_ ?_)
    · have h3 : ¬ (0 : Int) ≤ of i := ndec h3
      rw [hof i hlt] at h3
      have hr : isRep k es i = true := (rep_of_neg hes hlt).1 (by omega)
      conv => whnf
      have hol : out.length = (reps k es i).length := by rw [hout, List.length_map]
      refine ⟨Nat × (Nat → Int) × List Int, fun x => (i ≤ x.1 ∧ x.1 ≤ k) ∧ x.2.1 = (fun b => if b < x.1 ∧ both k es i b = true then (out.length : Int) else of b) ∧ x.2.2 = ((List.range x.1).filter fun b => decide (i ≤ b) && both k es i b).map fun (b : Nat) => (b : Int),
        fun x => ⟨(sk 1 (.p (.one (.lptr 1 0)) :: (sk 2 (W 12 0 :: (sk 0 (W 15 0 :: (sk 1 (W 100 0 :: (sk 0 (I i :: (sk 0 (W 200 0 :: (sk 0 (I x.1 :: (sk 15 (I k :: (sk 0 (I i :: (sk 46 []))))))))))))))))))), [(1, [.c (i64 k), .c (edges es)])],
        [(12, (0, btableR cl)), (15, (0, intsR (tb k x.2.1))), (100, (0, tableR out)), (200, (0, intsR x.2.2))]⟩, fun x => k - x.1, (i, of, []), ⟨⟨Nat.le_refl _, by simp only; omega⟩, ?_, ?_⟩, ?_, fun x hx => ?_⟩
      · show of = _
        funext b
        rw [if_neg]
        rintro ⟨hb1, hb2⟩
        rw [isRep_iff.1 hr b hb1] at hb2
        cases hb2
      · symm
        rw [List.map_eq_nil_iff, List.filter_eq_nil_iff]
        intro b hb
        have := List.mem_range.1 hb
        simp; omega
      · repeat' (first | exact trivial | exact rfl | refine And.intro ?_ ?_)
      obtain ⟨j, f, l⟩ := x
      obtain ⟨⟨hj1, hj2⟩, hf, hll⟩ := hx
      simp only at hj1 hj2 hf hll
      conv => whnf
      refine acond_split (fun h4 => ?_) (fun h4 => ?_)
      · have h4 := dec h4
        have hjk : j < k := by omega
        conv => whnf
        refine ⟨by omega, by simp [hcl, closureL]; omega, ?_⟩
        conv => whnf
        refine ⟨_, by rw [hcl]; exact closureL_get (by simpa using hlt), ?_⟩
        conv => whnf
        refine ⟨within es k (i : Int) (j : Int), by omega, reach_one hjk, ?_⟩
        conv => whnf
        have hlf : ((List.range j).filter fun b => decide (i ≤ b) && both k es i b).length ≤ j := by
          have := List.length_filter_le (fun b => decide (i ≤ b) && both k es i b) (List.range j)
          simpa using this
        have hl2 : l.length ≤ j := by rw [hll, List.length_map]; exact hlf
        have skip : both k es i j = false → f = (fun b => if b < j + 1 ∧ both k es i b = true then (out.length : Int) else of b) ∧ l = ((List.range (j + 1)).filter fun b => decide (i ≤ b) && both k es i b).map fun (b : Nat) => (b : Int) := by
          intro hb
          constructor
          · rw [hf]
            funext b
            by_cases e : b = j
            · subst e; simp [hb]
            · have : (b < j + 1 ∧ both k es i b = true) ↔ (b < j ∧ both k es i b = true) := by
                constructor <;> (rintro ⟨p, q⟩; exact ⟨by omega, q⟩)
              simp only [this]
          · rw [hll, take_range_filter, hb]; simp
        refine acond_split (fun h5 => ?_) (fun h5 => ?_)
        · conv => whnf
          refine ⟨by omega, by simp [hcl, closureL]; omega, ?_⟩
          conv => whnf
          refine ⟨_, by rw [hcl]; exact closureL_get (by simpa using hjk), ?_⟩
          conv => whnf
          refine ⟨within es k (j : Int) (i : Int), by omega, reach_one hlt, ?_⟩
          conv => whnf
          refine acond_split (fun h6 => ?_) (fun h6 => ?_)
          · have hb : both k es i j = true := by rw [both, h5, h6]; rfl
            conv => whnf
            intro _
            conv => whnf
            refine ⟨by omega, by simp; omega, ?_⟩
            simp only [addObj, setFr, forceA, setK, forceS, forceL]
            unfold seqops
            simp only [wguard, wstep, opd, fget, ownsA, relAll]
            unfold wstore
            simp only [opd, fget, lget]
            conv => whnf
            refine ⟨_, (out.length : Int), tb_get (by simpa using hjk), rfl, ?_⟩
            conv => whnf
            refine ⟨Int, fun n _ => i64 n, [(j : Int)], rfl, by decide, rfl, ?_⟩
            conv => whnf
            refine ⟨[(j : Int)], rfl, by simp; omega, by simp; omega, ?_⟩
            conv => whnf
            refine ⟨_, wi _ (by omega) (by omega), ?_⟩
            conv => whnf
            refine ⟨(j + 1, (fun b => if b = j then (out.length : Int) else f b), l ++ [(j : Int)]), ⟨⟨by simp only; omega, by simp only; omega⟩, ?_, ?_⟩, by show k - (j + 1) < k - j; omega, ?_⟩
            · simp only
              rw [hf]
              funext b
              by_cases e : b = j
              · subst e; simp [hb]
              · rw [if_neg e]
                have : (b < j + 1 ∧ both k es i b = true) ↔ (b < j ∧ both k es i b = true) := by
                  constructor <;> (rintro ⟨p, q⟩; exact ⟨by omega, q⟩)
                simp only [this]
            · simp only
              rw [hll, take_range_filter, hb]
              simp [hj1]
            · repeat' (first | exact trivial | exact rfl | refine And.intro ?_ ?_)
              show intsR (List.set _ _ _) = intsR _
              rw [map_set]
              rfl
          · have hb : both k es i j = false := by rw [both, h5, h6]; rfl
            obtain ⟨s1, s2⟩ := skip hb
            conv => whnf
            refine ⟨_, wi _ (by omega) (by omega), ?_⟩
            conv => whnf
            refine ⟨(j + 1, f, l), ⟨⟨by simp only; omega, by simp only; omega⟩, s1, s2⟩, by show k - (j + 1) < k - j; omega, ?_⟩
            repeat' (first | exact trivial | exact rfl | refine And.intro ?_ ?_)
        · have hb : both k es i j = false := by rw [both, h5]; rfl
          obtain ⟨s1, s2⟩ := skip hb
          conv => whnf
          refine ⟨_, wi _ (by omega) (by omega), ?_⟩
          conv => whnf
          refine ⟨(j + 1, f, l), ⟨⟨by simp only; omega, by simp only; omega⟩, s1, s2⟩, by show k - (j + 1) < k - j; omega, ?_⟩
          repeat' (first | exact trivial | exact rfl | refine And.intro ?_ ?_)
      · have h4 := ndec h4
        have hjk : j = k := by omega
        subst hjk
        conv => whnf
        have hlc : l = cls j es i := by rw [hll, cls_rep hr]
        refine ⟨List Int, fun r _ => ints r, [l], rfl, by decide, rfl, ?_⟩
        conv => whnf
        refine ⟨[l], rfl, by simp; omega, by simp; omega, ?_⟩
        conv => whnf
        refine ⟨_, wi _ (by omega) (by omega), ?_⟩
        conv => whnf
        refine ⟨(i + 1, f, out ++ [l]), ⟨by show i + 1 ≤ j; omega, ?_, ?_⟩, by show j - (i + 1) < j - i; omega, ?_⟩
        · intro b hb
          show f b = ofK j es (i + 1) b
          rw [ofK_rep hes hb hlt hr, hf, ← hof b hb, ← hol]
          simp [hb]
        · show out ++ [l] = _
          rw [hout, hlc, comp_rep hr]
        · repeat' (first | exact trivial | exact rfl | refine And.intro ?_ ?_)
  · have h2 := ndec h2
    have hi : i = k := by omega
    subst hi
    conv => whnf
    refine ⟨?_, ?_, trivial⟩
    · show tableR _ = tableR out
      rw [hout]; rfl
    · show intsR (ofL i es) = intsR (tb i of)
      congr 1
      exact List.map_congr_left fun b hb => (hof b (List.mem_range.1 hb)).symm
end Go.Fx
