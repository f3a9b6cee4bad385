/- ready, single. tree, Tree, Back, Path. Compare, Cycle. -/
import Derived.Test.YtoajmkplaognnaaK8
set_option linter.unusedVariables false
set_option linter.unusedSimpArgs false
set_option linter.unusedSectionVars false
namespace Go.Fx
open Go.Proofs Gr
set_option maxRecDepth 100000

theorem ct93 (es : List Int) (g n : Nat) (caps : Nat → CVal) (p : Int → Bool) (h : ∀ e ∈ es, Ct Try.prog g ([.one (i64 e)] ++ capsL caps 0 n) (.c (.bool (p e)))) :
    Ct Try.prog 93 [.one (ints es), .one (.fn g n caps)] (.c (i64 (idxF p es))) := by
  refine ct_of tyAll Try.func93 (by decide) rfl ?_
  conv => whnf
  intro hlen
  conv => whnf
  refine ⟨Nat, fun k => k ≤ es.length ∧ ∀ j, (hj : j < k) → (hj' : j < es.length) → p es[j] = false, fun k => ⟨(sk 0 (.c (ints es) :: (sk 0 (.c (.fn g n caps) :: (sk 4 (.c (ints es) :: (sk 0 (I es.length :: (sk 0 (I k :: (sk 10 []))))))))))), [], []⟩, fun k => es.length - k, 0, ⟨by omega, fun j hj => by omega⟩, ?_, fun k hk => ?_⟩
  · repeat' (first | exact trivial | exact rfl | refine And.intro ?_ ?_)
  obtain ⟨hk, hp⟩ := hk
  conv => whnf
  refine acond_split (fun h1 => ?_) (fun h1 => ?_)
  · have h1 := dec h1
    conv => whnf
    have hlt : k < es.length := by omega
    refine ⟨es[k], by omega, List.getElem?_eq_getElem hlt, ?_⟩
    conv => whnf
    refine ⟨_, h es[k] (List.getElem_mem hlt), ?_⟩
    conv => whnf
    refine acond_split (fun h2 => ?_) (fun h2 => ?_)
    · conv => whnf
      refine ⟨?_, trivial⟩
      exact congrArg i64 (idxF_at hlt h2 fun j hj => hp j hj (by omega))
    · conv => whnf
      refine ⟨_, wi _ (by omega) (by omega), ?_⟩
      conv => whnf
      refine ⟨k + 1, ⟨by omega, fun j hj hj' => ?_⟩, by show es.length - (k + 1) < es.length - k; omega, ?_⟩
      · rcases Nat.lt_or_ge j k with h | h
        · exact hp j h hj'
        · obtain rfl : j = k := by omega
          exact h2
      repeat' (first | exact trivial | exact rfl | refine And.intro ?_ ?_)
  · have h1 := ndec h1
    conv => whnf
    refine ⟨?_, trivial⟩
    exact congrArg i64 (idxF_none fun j hj => hp j (by omega) hj)

theorem ct42 (es : List Int) (g n : Nat) (caps : Nat → CVal) (p : Int → Bool) (h : ∀ e ∈ es, Ct Try.prog g ([.one (i64 e)] ++ capsL caps 0 n) (.c (.bool (p e)))) :
    Ct Try.prog 42 [.one (ints es), .one (.fn g n caps)] (.c (.bool (es.any p))) := by
  refine ct_of tyAll Try.func42 (by decide) rfl ?_
  conv => whnf
  refine ⟨_, ct93 es g n caps p h, ?_⟩
  conv => whnf
  refine ⟨?_, trivial⟩
  show CVal.bool _ = CVal.bool _
  congr 1
  exact (idxF_nonneg p es).symm

theorem ct108 (k n : Int) (es : Es) : Ct Try.prog 108 [.one (i64 k), .one (.ref 2 fun i => [i64 n, edges es].getD i .nil)] (.c (.bool (beyondB n k))) := by
  refine ct_of tyAll Try.func108 (by decide) rfl ?_
  conv => whnf
  refine ⟨_, ct70 n k, ?_⟩
  conv => whnf
  repeat' (first | exact trivial | exact rfl | refine And.intro ?_ ?_)

def ascB : List Int → Bool
  | [] => true
  | [_] => true
  | a :: b :: l => decide (a < b) && ascB (b :: l)
theorem ascB_iff : ∀ {l : List Int}, ascB l = true ↔ ∀ j, (h : j + 1 < l.length) → l[j]'(by omega) < l[j+1]
  | [] => by simp [ascB]
  | [_] => by simp [ascB]
  | a :: b :: l => by
    rw [ascB, Bool.and_eq_true, decide_eq_true_eq, ascB_iff (l := b :: l)]
    constructor
    · rintro ⟨h1, h2⟩ j hj
      cases j with
      | zero => exact h1
      | succ j => exact h2 j (by simpa using hj)
    · intro h
      exact ⟨h 0 (by simp), fun j hj => h (j + 1) (by simpa using hj)⟩
/-- The error of a list of nodes; of a graph with it. -/
def nodesE (n : Int) (l : List Int) : Int := if l.any (beyondB n) then 2 else if ascB l then 0 else 8
def readyE (n : Int) (es : Es) (l : List Int) : Int := if checkG n es ≠ 0 then checkG n es else nodesE n l

theorem ct86 (n : Int) (es : Es) (l : List Int) : Ct Try.prog 86 [gA n es, .one (ints l)] (.c (i64 (readyE n es l))) := by
  refine ct_of tyAll Try.func86 (by decide) rfl ?_
  conv => whnf
  refine ⟨_, ct21 n es, ?_⟩
  conv => whnf
  refine acond_split (fun h1 => ?_) (fun h1 => ?_)
  · have h1 := dec h1
    conv => whnf
    refine ⟨?_, trivial⟩
    exact congrArg i64 (by rw [readyE, if_pos h1])
  have h1 : checkG n es = 0 := Decidable.not_not.1 (of_decide_eq_false h1)
  rw [readyE, if_neg (by rw [h1]; simp)]
  conv => whnf
  refine .inl ?_
  conv => whnf
  refine ⟨_, ct42 l 108 1 (fun i => [CVal.ref 2 fun i => [i64 n, edges es].getD i .nil].getD i .nil) (beyondB n) (fun e _ => ct108 e n es), .inl (flat_bool _), ?_⟩
  conv => whnf
  refine acond_split (fun h2 => ?_) (fun h2 => ?_)
  · conv => whnf
    refine ⟨?_, trivial⟩
    exact congrArg i64 (by rw [nodesE, if_pos h2])
  rw [nodesE, if_neg (by rw [h2]; simp)]
  conv => whnf
  refine ⟨Nat, fun k => 1 ≤ k ∧ (k ≤ l.length ∨ k = 1) ∧ ∀ j, (h : j + 1 < l.length) → j + 1 < k → l[j]'(by omega) < l[j+1], fun k => ⟨(sk 1 (.c (ints l) :: (sk 4 (I k :: (sk 24 []))))), [], []⟩, fun k => l.length - k, 1, ⟨by omega, .inr rfl, fun j h h' => by omega⟩, ?_, fun k hk' => ?_⟩
  · repeat' (first | exact trivial | exact rfl | refine And.intro ?_ ?_)
  obtain ⟨hk1, hk2, hs⟩ := hk'
  conv => whnf
  intro _
  conv => whnf
  refine acond_split (fun h3 => ?_) (fun h3 => ?_)
  · have h3 := dec h3
    conv => whnf
    have hlt : k < l.length := by omega
    obtain ⟨j, rfl⟩ : ∃ j, k = j + 1 := ⟨k - 1, by omega⟩
    refine draw_intro tyAll mixed 10 (by kernel_rfl) ?_
    conv => whnf
    refine ⟨l[j + 1], by omega, List.getElem?_eq_getElem hlt, ?_⟩
    conv => whnf
    refine ⟨j, by rw [wi _ (by omega) (by omega)]; omega, ?_⟩
    conv => whnf
    refine ⟨l[j], by omega, List.getElem?_eq_getElem (by omega), ?_⟩
    conv => whnf
    refine acond_split (fun h4 => ?_) (fun h4 => ?_)
    · have h4 : l[j + 1] ≤ l[j] := of_decide_eq_true h4
      conv => whnf
      refine ⟨?_, trivial⟩
      refine congrArg i64 ?_
      rw [if_neg]
      intro hc
      have := ascB_iff.1 hc j hlt
      omega
    · have h4 : ¬ l[j + 1] ≤ l[j] := of_decide_eq_false h4
      conv => whnf
      refine ⟨_, wi _ (by omega) (by omega), ?_⟩
      conv => whnf
      refine ⟨j + 1 + 1, ⟨by omega, .inl (by omega), fun i h h' => ?_⟩, by show l.length - (j + 1 + 1) < l.length - (j + 1); omega, ?_⟩
      · by_cases e : i = j
        · subst e; omega
        · exact hs i h (by omega)
      · repeat' (first | exact trivial | exact rfl | refine And.intro ?_ ?_)
  · have h3 := ndec h3
    conv => whnf
    refine ⟨?_, trivial⟩
    exact congrArg i64 (by rw [if_pos (ascB_iff.2 fun j hj => hs j hj (by omega))])

def singleE (n : Int) (es : Es) (l : List Int) : Int := fstNZ (l.map fun k => readyE n es [k])

theorem fst_at : ∀ {l : List Int} {k : Nat} (hk : k < l.length), l[k] ≠ 0 → (∀ j, (h : j < k) → l[j]'(by omega) = 0) → fstNZ l = l[k]
  | x :: l, 0, hk, h, _ => by rw [fstNZ, if_neg (show ¬ x = 0 from h)]; rfl
  | x :: l, k + 1, hk, h, hn => by
    rw [fstNZ, if_pos (show x = 0 from hn 0 (by omega))]
    exact fst_at (l := l) (k := k) (by simpa using hk) h fun j hj => hn (j + 1) (by omega)
theorem fst_none : ∀ {l : List Int}, (∀ j, (h : j < l.length) → l[j] = 0) → fstNZ l = 0
  | [], _ => rfl
  | x :: l, hn => by
    rw [fstNZ, if_pos (show x = 0 from hn 0 (by simp))]
    exact fst_none (l := l) fun j hj => hn (j + 1) (by simpa using hj)

theorem ct77 (n : Int) (es : Es) (l : List Int) : Ct Try.prog 77 [gA n es, .one (ints l)] (.c (i64 (singleE n es l))) := by
  refine ct_of tyAll Try.func77 (by decide) rfl ?_
  conv => whnf
  intro hlen
  conv => whnf
  refine ⟨Nat, fun k => k ≤ l.length ∧ ∀ j, (hj : j < k) → (hj' : j < l.length) → readyE n es [l[j]] = 0, fun k => ⟨(sk 2 (.p (.one (.lptr 2 0)) :: (sk 5 (.c (ints l) :: (sk 0 (I l.length :: (sk 0 (I k :: (sk 11 []))))))))), [(2, [.c (i64 n), .c (edges es)])], []⟩, fun k => l.length - k, 0, ⟨by omega, fun j hj => by omega⟩, ?_, fun k hk => ?_⟩
  · repeat' (first | exact trivial | exact rfl | refine And.intro ?_ ?_)
  obtain ⟨hk, hp⟩ := hk
  conv => whnf
  refine acond_split (fun h1 => ?_) (fun h1 => ?_)
  · have h1 := dec h1
    conv => whnf
    have hlt : k < l.length := by omega
    refine ⟨l[k], by omega, List.getElem?_eq_getElem hlt, ?_⟩
    conv => whnf
    refine ⟨Int, fun n _ => i64 n, [l[k]], rfl, by decide, rfl, ?_⟩
    conv => whnf
    refine .inl ?_
    conv => whnf
    refine ⟨_, ct86 n es [l[k]], .inl (flat_int _ _), ?_⟩
    conv => whnf
    refine acond_split (fun h2 => ?_) (fun h2 => ?_)
    · have h2 := dec h2
      conv => whnf
      refine ⟨?_, trivial⟩
      refine congrArg i64 ?_
      unfold singleE
      rw [fst_at (k := k) (by simpa using hlt) (by simpa using h2) fun j hj => by simpa using hp j hj (by omega)]
      simp
    · have h2 : readyE n es [l[k]] = 0 := Decidable.not_not.1 (of_decide_eq_false h2)
      conv => whnf
      refine ⟨_, wi _ (by omega) (by omega), ?_⟩
      conv => whnf
      refine ⟨k + 1, ⟨by omega, fun j hj hj' => ?_⟩, by show l.length - (k + 1) < l.length - k; omega, ?_⟩
      · rcases Nat.lt_or_ge j k with h | h
        · exact hp j h hj'
        · obtain rfl : j = k := by omega
          exact h2
      repeat' (first | exact trivial | exact rfl | refine And.intro ?_ ?_)
  · have h1 := ndec h1
    conv => whnf
    refine ⟨?_, trivial⟩
    refine congrArg i64 ?_
    unfold singleE
    rw [fst_none fun j hj => by simpa using hp j (by simp at hj; omega) (by simpa using hj)]
end Go.Fx

namespace Go.Fx
open Go.Proofs Gr
set_option maxRecDepth 100000

def treeL (N : Nat) (root : Int) (f : Int → Int) : List Int := tb N fun v => if (v : Int) = root then -1 else f v
def treeRv (n : Int) (es : Es) (root : Int) (f : Int → Int) : Rv :=
  if singleE n es [root] = 0 then .tup [.one (.row 0 (intsR (treeL n.toNat root f))), .one (.c (i64 0))] else .tup [.one (.c .nil), .one (.c (i64 (singleE n es [root])))]

theorem single_one (n : Int) (es : Es) (r : Int) : singleE n es [r] = readyE n es [r] := by
  unfold singleE
  rw [List.map_cons, List.map_nil, fstNZ]
  by_cases h : readyE n es [r] = 0
  · rw [if_pos h, h]; rfl
  · rw [if_neg h]
theorem ready_ok {n : Int} {es : Es} {l : List Int} (h : readyE n es l = 0) : checkG n es = 0 ∧ nodesE n l = 0 := by
  unfold readyE at h
  split at h
  · rename_i h1; exact absurd h h1
  · rename_i h1; exact ⟨Decidable.not_not.1 h1, h⟩
theorem nodes_in {n : Int} {l : List Int} (h : nodesE n l = 0) : (∀ a ∈ l, 0 ≤ a ∧ a < n) ∧ ascB l = true := by
  unfold nodesE at h
  split at h
  · cases h
  rename_i h1
  split at h
  · rename_i h2
    refine ⟨fun a ha => ?_, h2⟩
    have h3 : ¬ beyondB n a = true := fun h3 => h1 (List.any_eq_true.2 ⟨a, ha, h3⟩)
    simp only [beyondB, Bool.or_eq_true, decide_eq_true_eq] at h3
    omega
  · cases h
theorem single_ok {n : Int} {es : Es} {r : Int} (h : singleE n es [r] = 0) : checkG n es = 0 ∧ 0 ≤ r ∧ r < n := by
  rw [single_one] at h
  have h1 := ready_ok h
  exact ⟨h1.1, (nodes_in h1.2).1 r (by simp)⟩

theorem flat_ints (xs : List Int) (m : Int) : FlatRv (.tup [.one (.row 0 (intsR xs)), .one (.c (i64 m))]) := by
  intro x hx
  rcases List.mem_cons.1 hx with rfl | hx
  · exact fun y i => flat_int _ _
  · rcases List.mem_cons.1 hx with rfl | hx
    · exact flat_int _ _
    · cases hx
theorem flat_err (m : Int) : FlatRv (.tup [.one (.c .nil), .one (.c (i64 m))]) := by
  intro x hx
  rcases List.mem_cons.1 hx with rfl | hx
  · exact flat_nil
  · rcases List.mem_cons.1 hx with rfl | hx
    · exact flat_int _ _
    · cases hx

theorem ct81 (n : Int) (es : Es) (root : Int) (g nc : Nat) (caps : Nat → CVal) (f : Int → Int) (h : singleE n es [root] = 0 → ∀ k : Nat, (k : Int) < n → Ct Try.prog g ([.one (i64 k)] ++ capsL caps 0 nc) (.c (i64 (f k)))) :
    Ct Try.prog 81 [gA n es, .one (i64 root), .one (.fn g nc caps)] (treeRv n es root f) := by
  refine ct_of tyAll Try.func81 (by decide) rfl ?_
  conv => whnf
  refine ⟨Int, fun n _ => i64 n, [root], rfl, by decide, rfl, ?_⟩
  conv => whnf
  refine .inl ?_
  conv => whnf
  refine ⟨_, ct77 n es [root], .inl (flat_int _ _), ?_⟩
  conv => whnf
  refine acond_split (fun h1 => ?_) (fun h1 => ?_)
  · have h1 := dec h1
    conv => whnf
    rw [treeRv, if_neg h1]
    conv => whnf
    repeat' (first | exact trivial | exact rfl | refine And.intro ?_ ?_)
  have h1 : singleE n es [root] = 0 := Decidable.not_not.1 (of_decide_eq_false h1)
  have h := h h1
  rw [treeRv, if_pos h1, h1]
  obtain ⟨hc, hr0, hr1⟩ := single_ok h1
  obtain ⟨N, rfl, hN, hes, hl, _⟩ := check_ok hc
  rw [Int.toNat_natCast]
  conv => whnf
  refine ⟨rfl, by omega, by omega, by omega, by omega, Int, fun n _ => i64 n, 0, zok1 (fun _ _ => rfl), ?_⟩
  conv => whnf
  intro hlen
  conv => whnf
  refine ⟨Nat, fun k => k ≤ N, fun k => ⟨(sk 1 (I root :: (sk 0 (.c (.fn g nc caps) :: (sk 6 (W 20 0 :: (sk 12 (I N :: (sk 0 (I k :: (sk 16 []))))))))))), [], [(20, (0, intsR (tb N fun b => if b < k then (if (b : Int) = root then -1 else f b) else 0)))]⟩, fun k => N - k, 0, by simp, ?_, fun k hk => ?_⟩
  · repeat' (first | exact trivial | exact rfl | refine And.intro ?_ ?_)
    · show i64 (List.replicate _ (0 : Int)).length = i64 N
      simp
    · show intsR (List.replicate _ (0 : Int)) = intsR _
      simp [tb, List.map_const']
  have hk : k ≤ N := hk
  conv => whnf
  refine acond_split (fun h2 => ?_) (fun h2 => ?_)
  · have h2 := dec h2
    conv => whnf
    have hlt : k < N := by omega
    refine ⟨by omega, by simp; omega, ?_⟩
    conv => whnf
    refine ⟨_, (-1 : Int), tb_get (by omega), rfl, ?_⟩
    conv => whnf
    refine acond_split (fun h3 => ?_) (fun h3 => ?_)
    · have h3 : (k : Int) ≠ root := of_decide_eq_true h3
      conv => whnf
      refine ⟨_, h k (by omega), ?_⟩
      conv => whnf
      refine ⟨by omega, by simp; omega, ?_⟩
      conv => whnf
      refine ⟨(-1 : Int), f k, (by show (List.set _ _ _)[_]? = _; rw [map_set, tb_get (by omega), if_pos rfl]), rfl, ?_⟩
      conv => whnf
      refine ⟨_, wi _ (by omega) (by omega), ?_⟩
      conv => whnf
      refine ⟨k + 1, by show k + 1 ≤ N; omega, by show N - (k + 1) < N - k; omega, ?_⟩
      repeat' (first | exact trivial | exact rfl | refine And.intro ?_ ?_)
      show intsR (List.set (List.set _ _ _) _ _) = intsR _
      rw [map_set, map_set]
      congr 1
      refine List.map_congr_left fun b hb => ?_
      simp only [Int.toNat_natCast]
      by_cases e : b = k
      · subst e
        rw [if_pos rfl, if_pos (show b < b + 1 by omega), if_neg h3]
      · rw [if_neg e, if_neg e]
        by_cases e2 : b < k
        · rw [if_pos e2, if_pos (show b < k + 1 by omega)]
        · rw [if_neg e2, if_neg (show ¬ b < k + 1 by omega)]
    · have h3 : (k : Int) = root := Decidable.not_not.1 (of_decide_eq_false h3)
      conv => whnf
      refine ⟨_, wi _ (by omega) (by omega), ?_⟩
      conv => whnf
      refine ⟨k + 1, by show k + 1 ≤ N; omega, by show N - (k + 1) < N - k; omega, ?_⟩
      repeat' (first | exact trivial | exact rfl | refine And.intro ?_ ?_)
      show intsR (List.set _ _ _) = intsR _
      rw [map_set]
      congr 1
      refine List.map_congr_left fun b hb => ?_
      simp only [Int.toNat_natCast]
      by_cases e : b = k
      · subst e
        rw [if_pos rfl, if_pos (show b < b + 1 by omega), if_pos h3]
      · rw [if_neg e]
        by_cases e2 : b < k
        · rw [if_pos e2, if_pos (show b < k + 1 by omega)]
        · rw [if_neg e2, if_neg (show ¬ b < k + 1 by omega)]
  · have h2 := ndec h2
    conv => whnf
    have hk' : k = N := by omega
    subst hk'
    repeat' (first | exact trivial | exact rfl | refine And.intro ?_ ?_)
    show intsR (treeL k root f) = intsR _
    unfold treeL
    congr 1
    refine List.map_congr_left fun b hb => ?_
    rw [if_pos (List.mem_range.1 hb)]

/-- A path, or none. -/
def pathO (n : Nat) (es : Es) (a b : Int) : List Int := if dist n es a b < 0 then [] else pathL n es a b
def lastB (l : List Int) : Int := if l.length < 2 then -1 else l.getD (l.length - 2) 0
def sndB (l : List Int) : Int := if l.length < 2 then -1 else l.getD 1 0

theorem pathL_length {n : Nat} {es : Es} (hes : inR n es) {a b : Int} (ha : 0 ≤ a ∧ a < n) : (pathL n es a b).length ≤ n + 1 := by
  unfold pathL; rw [pathD_length]
  have := dist_bound (b := b) hes ha
  omega

theorem ct82 (N : Nat) (hN : N ≤ 64) (es : Es) (hes : inR N es) (hs : SortedL es) (hl : es.length ≤ 1000000) (root k : Int) (hr : 0 ≤ root ∧ root < (N : Int)) (hk : 0 ≤ k ∧ k < (N : Int)) :
    Ct Try.prog 82 [.one (i64 k), .one (.ref 2 fun i => [i64 N, edges es].getD i .nil), .one (.ref 1 fun i => [i64 root].getD i .nil)] (.c (i64 (lastB (pathO N es root k)))) := by
  refine ct_of tyAll Try.func82 (by decide) rfl ?_
  conv => whnf
  have hp := ct78 N hN es hes hs hl root k hr hk
  unfold pathRv at hp
  unfold pathO
  by_cases hd : dist N es root k < 0
  · rw [if_pos hd] at hp ⊢
    refine ⟨_, hp, ?_⟩
    conv => whnf
    refine ⟨?_, trivial⟩
    rfl
  · rw [if_neg hd] at hp ⊢
    refine ⟨_, hp, ?_⟩
    conv => whnf
    have hpl := pathL_length (b := k) hes hr
    intro _
    conv => whnf
    refine acond_split (fun h1 => ?_) (fun h1 => ?_)
    · have h1 : ((pathL N es root k).length : Int) < 2 := dec h1
      conv => whnf
      refine ⟨?_, trivial⟩
      exact congrArg i64 (by rw [lastB, if_pos (by omega)])
    · have h1 : ¬ ((pathL N es root k).length : Int) < 2 := ndec h1
      conv => whnf
      intro _
      conv => whnf
      refine ⟨((pathL N es root k).length - 2 : Nat), by show IntKind.i64.wrap (((pathL N es root k).length : Int) - 2) = _; rw [wi _ (by omega) (by omega)]; omega, ?_⟩
      conv => whnf
      have hlt : (pathL N es root k).length - 2 < (pathL N es root k).length := by omega
      refine ⟨by omega, by show (((pathL N es root k).length - 2 : Nat) : Int) < ((pathL N es root k).length : Int); omega, ?_⟩
      conv => whnf
      refine ⟨_, List.getElem?_eq_getElem hlt, ?_⟩
      conv => whnf
      refine ⟨?_, trivial⟩
      refine congrArg i64 ?_
      rw [lastB, if_neg (by omega)]
      simp [List.getD, hlt]

theorem ct83 (N : Nat) (hN : N ≤ 64) (es : Es) (hes : inR N es) (hs : SortedL es) (hl : es.length ≤ 1000000) (root k : Int) (hr : 0 ≤ root ∧ root < (N : Int)) (hk : 0 ≤ k ∧ k < (N : Int)) :
    Ct Try.prog 83 [.one (i64 k), .one (.ref 2 fun i => [i64 N, edges es].getD i .nil), .one (.ref 1 fun i => [i64 root].getD i .nil)] (.c (i64 (sndB (pathO N es k root)))) := by
  refine ct_of tyAll Try.func83 (by decide) rfl ?_
  conv => whnf
  have hp := ct78 N hN es hes hs hl k root hk hr
  unfold pathRv at hp
  unfold pathO
  by_cases hd : dist N es k root < 0
  · rw [if_pos hd] at hp ⊢
    refine ⟨_, hp, ?_⟩
    conv => whnf
    refine ⟨?_, trivial⟩
    rfl
  · rw [if_neg hd] at hp ⊢
    refine ⟨_, hp, ?_⟩
    conv => whnf
    intro _
    conv => whnf
    refine acond_split (fun h1 => ?_) (fun h1 => ?_)
    · have h1 : ((pathL N es k root).length : Int) < 2 := dec h1
      conv => whnf
      refine ⟨?_, trivial⟩
      exact congrArg i64 (by rw [sndB, if_pos (by omega)])
    · have h1 : ¬ ((pathL N es k root).length : Int) < 2 := ndec h1
      conv => whnf
      have hlt : 1 < (pathL N es k root).length := by omega
      refine ⟨by omega, by show (1 : Int) < ((pathL N es k root).length : Int); omega, ?_⟩
      conv => whnf
      refine ⟨_, List.getElem?_eq_getElem hlt, ?_⟩
      conv => whnf
      refine ⟨?_, trivial⟩
      refine congrArg i64 ?_
      rw [sndB, if_neg (by omega)]
      simp [List.getD, hlt]

theorem ct27 (n : Int) (es : Es) (root : Int) : Ct Try.prog 27 [gA n es, .one (i64 root)] (treeRv n es root fun k => lastB (pathO n.toNat es root k)) := by
  refine ct_of tyAll Try.func27 (by decide) rfl ?_
  conv => whnf
  refine .inl ?_
  conv => whnf
  have h := ct81 n es root 82 2 (fun i => [CVal.ref 2 fun i => [i64 n, edges es].getD i .nil, CVal.ref 1 fun i => [i64 root].getD i .nil].getD i .nil) (fun k => lastB (pathO n.toNat es root k)) (fun h k hk => by
    obtain ⟨hc, hr0, hr1⟩ := single_ok h
    obtain ⟨N, rfl, hN, hes, hl, hs⟩ := check_ok hc
    exact ct82 N hN es hes (sortedB_pairwise hs) (by omega) root k ⟨hr0, hr1⟩ ⟨by omega, hk⟩)
  unfold treeRv at h ⊢
  by_cases h1 : singleE n es [root] = 0
  · rw [if_pos h1] at h ⊢
    refine ⟨_, h, .inl (flat_ints _ _), ?_⟩
    conv => whnf
    repeat' (first | exact trivial | exact rfl | refine And.intro ?_ ?_)
  · rw [if_neg h1] at h ⊢
    refine ⟨_, h, .inl (flat_err _), ?_⟩
    conv => whnf
    repeat' (first | exact trivial | exact rfl | refine And.intro ?_ ?_)

theorem ct28 (n : Int) (es : Es) (root : Int) : Ct Try.prog 28 [gA n es, .one (i64 root)] (treeRv n es root fun k => sndB (pathO n.toNat es k root)) := by
  refine ct_of tyAll Try.func28 (by decide) rfl ?_
  conv => whnf
  refine .inl ?_
  conv => whnf
  have h := ct81 n es root 83 2 (fun i => [CVal.ref 2 fun i => [i64 n, edges es].getD i .nil, CVal.ref 1 fun i => [i64 root].getD i .nil].getD i .nil) (fun k => sndB (pathO n.toNat es k root)) (fun h k hk => by
    obtain ⟨hc, hr0, hr1⟩ := single_ok h
    obtain ⟨N, rfl, hN, hes, hl, hs⟩ := check_ok hc
    exact ct83 N hN es hes (sortedB_pairwise hs) (by omega) root k ⟨hr0, hr1⟩ ⟨by omega, hk⟩)
  unfold treeRv at h ⊢
  by_cases h1 : singleE n es [root] = 0
  · rw [if_pos h1] at h ⊢
    refine ⟨_, h, .inl (flat_ints _ _), ?_⟩
    conv => whnf
    repeat' (first | exact trivial | exact rfl | refine And.intro ?_ ?_)
  · rw [if_neg h1] at h ⊢
    refine ⟨_, h, .inl (flat_err _), ?_⟩
    conv => whnf
    repeat' (first | exact trivial | exact rfl | refine And.intro ?_ ?_)

def pathAll (n : Int) (es : Es) (a b : Int) : Rv :=
  if singleE n es [a, b] = 0 then (if dist n.toNat es a b < 0 then .tup [.one (.c .nil), .one (.c (i64 10))] else .tup [.one (.row 0 (intsR (pathL n.toNat es a b))), .one (.c (i64 0))])
  else .tup [.one (.c .nil), .one (.c (i64 (singleE n es [a, b])))]

theorem single_two {n : Int} {es : Es} {a b : Int} (h : singleE n es [a, b] = 0) : checkG n es = 0 ∧ (0 ≤ a ∧ a < n) ∧ 0 ≤ b ∧ b < n := by
  unfold singleE at h
  rw [List.map_cons, List.map_cons, List.map_nil, fstNZ] at h
  by_cases h1 : readyE n es [a] = 0
  · rw [if_pos h1, fstNZ] at h
    by_cases h2 : readyE n es [b] = 0
    · have h3 := ready_ok h1
      have h4 := ready_ok h2
      exact ⟨h3.1, (nodes_in h3.2).1 a (by simp), (nodes_in h4.2).1 b (by simp)⟩
    · rw [if_neg h2] at h; exact absurd h h2
  · rw [if_neg h1] at h; exact absurd h h1

theorem ct23 (n : Int) (es : Es) (a b : Int) : Ct Try.prog 23 [gA n es, .one (i64 a), .one (i64 b)] (pathAll n es a b) := by
  refine ct_of tyAll Try.func23 (by decide) rfl ?_
  conv => whnf
  refine ⟨Int, fun n _ => i64 n, [a, b], rfl, by decide, rfl, ?_⟩
  conv => whnf
  refine .inl ?_
  conv => whnf
  refine ⟨_, ct77 n es [a, b], .inl (flat_int _ _), ?_⟩
  conv => whnf
  refine acond_split (fun h1 => ?_) (fun h1 => ?_)
  · have h1 := dec h1
    conv => whnf
    rw [pathAll, if_neg h1]
    conv => whnf
    repeat' (first | exact trivial | exact rfl | refine And.intro ?_ ?_)
  have h1 : singleE n es [a, b] = 0 := Decidable.not_not.1 (of_decide_eq_false h1)
  rw [pathAll, if_pos h1]
  obtain ⟨hc, ha, hb⟩ := single_two h1
  obtain ⟨N, rfl, hN, hes, hl, hs⟩ := check_ok hc
  rw [Int.toNat_natCast]
  conv => whnf
  have hp := ct78 N hN es hes (sortedB_pairwise hs) (by omega) a b ha hb
  unfold pathRv at hp
  by_cases hd : dist N es a b < 0
  · rw [if_pos hd] at hp ⊢
    refine ⟨_, hp, ?_⟩
    conv => whnf
    repeat' (first | exact trivial | exact rfl | refine And.intro ?_ ?_)
  · rw [if_neg hd] at hp ⊢
    refine ⟨_, hp, ?_⟩
    conv => whnf
    intro t ht
    have htf : t = false := ht (by show (pathL N es a b).length ≠ 0; unfold pathL; rw [pathD_length]; omega)
    subst htf
    conv => whnf
    repeat' (first | exact trivial | exact rfl | refine And.intro ?_ ?_)
end Go.Fx

namespace Go.Fx
open Go.Proofs Gr
set_option maxRecDepth 100000

def cmpL : List Int → List Int → Int
  | [], [] => 0
  | [], _ :: _ => -1
  | _ :: _, [] => 1
  | x :: xs, y :: ys => if icmp x y = 0 then cmpL xs ys else icmp x y

theorem ct85 (xs ys : List Int) : Ct Try.prog 85 [.one (ints xs), .one (ints ys)] (.c (i64 (cmpL xs ys))) := by
  refine ct_of tyAll Try.func85 (by decide) rfl ?_
  conv => whnf
  intro hlen
  conv => whnf
  refine ⟨Nat, fun k => k ≤ xs.length ∧ cmpL (xs.drop k) (ys.drop k) = cmpL xs ys ∧ k ≤ ys.length, fun k => ⟨(sk 0 (.c (ints xs) :: (sk 0 (.c (ints ys) :: (sk 7 (.c (ints xs) :: (sk 0 (I xs.length :: (sk 0 (I k :: (sk 24 []))))))))))), [], []⟩, fun k => xs.length - k, 0, ⟨by omega, rfl, by omega⟩, ?_, fun k hk => ?_⟩
  · repeat' (first | exact trivial | exact rfl | refine And.intro ?_ ?_)
  obtain ⟨hk, hp, hky⟩ := hk
  conv => whnf
  refine acond_split (fun h1 => ?_) (fun h1 => ?_)
  · have h1 := dec h1
    conv => whnf
    have hlt : k < xs.length := by omega
    rw [List.drop_eq_getElem_cons hlt] at hp
    refine ⟨xs[k], by omega, List.getElem?_eq_getElem hlt, ?_⟩
    conv => whnf
    intro hlen2
    conv => whnf
    refine acond_split (fun h2 => ?_) (fun h2 => ?_)
    · have h2 := dec h2
      conv => whnf
      refine ⟨?_, trivial⟩
      rw [show ys.drop k = [] from List.drop_eq_nil_of_le (by omega)] at hp
      exact congrArg i64 (by rw [← hp]; rfl)
    · have h2 := ndec h2
      conv => whnf
      have hlt2 : k < ys.length := by omega
      rw [List.drop_eq_getElem_cons hlt2, cmpL] at hp
      refine ⟨ys[k], by omega, List.getElem?_eq_getElem hlt2, ?_⟩
      conv => whnf
      refine ⟨_, ct106 xs[k] ys[k], ?_⟩
      conv => whnf
      refine acond_split (fun h3 => ?_) (fun h3 => ?_)
      · have h3 : icmp xs[k] ys[k] ≠ 0 := of_decide_eq_true h3
        rw [if_neg h3] at hp
        conv => whnf
        refine ⟨?_, trivial⟩
        exact congrArg i64 hp.symm
      · have h3 : icmp xs[k] ys[k] = 0 := Decidable.not_not.1 (of_decide_eq_false h3)
        rw [if_pos h3] at hp
        conv => whnf
        refine ⟨_, wi _ (by omega) (by omega), ?_⟩
        conv => whnf
        refine ⟨k + 1, ⟨by omega, hp, by omega⟩, by show xs.length - (k + 1) < xs.length - k; omega, ?_⟩
        repeat' (first | exact trivial | exact rfl | refine And.intro ?_ ?_)
  · have h1 := ndec h1
    conv => whnf
    rw [show xs.drop k = [] from List.drop_eq_nil_of_le (by omega)] at hp
    intro hlen2
    conv => whnf
    intro hlen3
    conv => whnf
    refine acond_split (fun h2 => ?_) (fun h2 => ?_)
    · have h2 := dec h2
      conv => whnf
      have hlt2 : k < ys.length := by omega
      rw [List.drop_eq_getElem_cons hlt2] at hp
      refine ⟨?_, trivial⟩
      exact congrArg i64 (by rw [← hp]; rfl)
    · have h2 := ndec h2
      conv => whnf
      rw [show ys.drop k = [] from List.drop_eq_nil_of_le (by omega)] at hp
      refine ⟨?_, trivial⟩
      exact congrArg i64 (by rw [← hp]; rfl)

/-- The cycle that begins with an edge; the first of the shortest. -/
def cycOf (n : Nat) (es : Es) (e : Int × Int) : List Int := e.1 :: (pathL n es e.2 e.1).dropLast
def better (l : List Int) : Option (List Int) → Bool
  | none => true
  | some b => decide (l.length < b.length) || (decide (l.length = b.length) && decide (cmpL l b < 0))
def cycStep (n : Nat) (es : Es) (best : Option (List Int)) (e : Int × Int) : Option (List Int) :=
  if dist n es e.2 e.1 < 0 then best else if better (cycOf n es e) best then some (cycOf n es e) else best
def cycL (n : Nat) (es : Es) : Option (List Int) := es.foldl (cycStep n es) none
def cycRv (n : Int) (es : Es) : Rv :=
  if checkG n es = 0 then (match cycL n.toNat es with
    | none => .tup [.one (.c .nil), .one (.c (i64 10))]
    | some l => .tup [.one (.c (ints l)), .one (.c (i64 0))])
  else .tup [.one (.c .nil), .one (.c (i64 (checkG n es)))]

/-- A row of its own is also a row that is read. -/
theorem ct_read {P : Program} {g : Nat} {args : List Av} {R : Row} (h : Ct P g args (.row R)) : Ct P g args (.c (.sl R.α R.k R.cell R.xs)) := by
  refine ⟨h.1, fun w X vs hX hA => (h.2 w X vs hX hA).mono ?_⟩
  rintro e w' ⟨hb, v, he, vo, hrow, hsep, hval⟩
  refine ⟨hb, v, he, fun _ => .slice none 0 0, fun r R' hr => (by cases hr), fun r r' R1 R2 b h1 => (by cases h1), ?_⟩
  obtain ⟨ver, R1, h1, _, h3⟩ := hval
  have h1 : Option.map (fun R => (0, R)) (lget [(0, R)] 0) = some (ver, R1) := h1
  have e0 : ver = 0 ∧ R1 = R := by
    simp [lget] at h1
    exact ⟨h1.1.symm, h1.2.symm⟩
  obtain ⟨rfl, rfl⟩ := e0
  have hv : v = vo 0 := h3 rfl
  subst hv
  have hr := hrow 0 R1 rfl
  have hX' : ∀ b, RX X (Rv.rows id (Rv.c (CVal.sl R1.α R1.k R1.cell R1.xs))) (fun x => Value.slice none 0 0) b → X b := by
    rintro b (hb | ⟨r, R2, h4, _⟩)
    · exact hb
    · cases h4
  show Rep w' _ (.sl R1.α R1.k R1.cell R1.xs) (vo 0)
  rcases hr with ⟨e1, e2⟩ | ⟨g, o, c, cur, e1, hg, hh, hc1, hc2, hc3, hc4⟩
  · rw [e1]
    exact ⟨none, 0, by rw [e2]; rfl, by rw [e2]; exact Nat.le_refl _, by rw [e2]; exact Nat.zero_le _, fun hne => absurd e2 hne⟩
  · rw [e1]
    refine ⟨_, c, rfl, hc1, Nat.le_trans hc1 hc2, fun _ => ⟨g, o, rfl, fun hx => ?_, ?_, fun j x hj i hi => ?_⟩⟩
    · have := hX g (hX' g hx); omega
    · rcases Nat.lt_or_ge g w'.heap.size with h | h
      · exact h
      · rw [Array.getElem?_eq_none h] at hh; cases hh
    · obtain ⟨u, hu, hru⟩ := hc4 j x hj i hi
      exact ⟨u, by rw [cell_of_row w' g _ cur R1.e (0, 0) hh]; exact hu, Rep.sub (fun b hb => .inl (hX' b hb)) hru⟩

def bestC : Option (List Int) → CVal
  | none => .nil
  | some l => ints l

theorem ct33 (n : Int) (es : Es) : Ct Try.prog 33 [gA n es] (cycRv n es) := by
  refine ct_of tyAll Try.func33 (by decide) rfl ?_
  conv => whnf
  refine ⟨_, ct21 n es, ?_⟩
  conv => whnf
  refine acond_split (fun h1 => ?_) (fun h1 => ?_)
  · have h1 := dec h1
    conv => whnf
    rw [cycRv, if_neg h1]
    conv => whnf
    repeat' (first | exact trivial | exact rfl | refine And.intro ?_ ?_)
  have h1 : checkG n es = 0 := Decidable.not_not.1 (of_decide_eq_false h1)
  rw [cycRv, if_pos h1, h1]
  obtain ⟨N, rfl, hN, hes, hl, hs⟩ := check_ok h1
  rw [Int.toNat_natCast]
  conv => whnf
  intro hlen
  conv => whnf
  refine ⟨Nat × Option (List Int), fun i => i.1 ≤ es.length ∧ i.2 = (es.take i.1).foldl (cycStep N es) none ∧ ∀ l, i.2 = some l → l ≠ [] ∧ l.length ≤ 1000, fun i => ⟨(sk 1 (.p (.one (.lptr 1 0)) :: (sk 3 (.c (bestC i.2) :: (sk 10 (.c (edges es) :: (sk 0 (I es.length :: (sk 0 (I i.1 :: (sk 47 []))))))))))), [(1, [.c (i64 N), .c (edges es)])], []⟩, fun i => es.length - i.1, (0, none), ⟨by simp, rfl, fun l h => by cases h⟩, ?_, fun i hi => ?_⟩
  · repeat' (first | exact trivial | exact rfl | refine And.intro ?_ ?_)
  obtain ⟨k, best⟩ := i
  obtain ⟨hk, hb, hbl⟩ := hi
  simp only at hk hb hbl
  conv => whnf
  refine acond_split (fun h2 => ?_) (fun h2 => ?_)
  · have h2 := dec h2
    conv => whnf
    have hlt : k < es.length := by omega
    obtain ⟨ha, hc⟩ := hes es[k] (List.getElem_mem hlt)
    have htake : (es.take (k + 1)).foldl (cycStep N es) none = cycStep N es best es[k] := by
      rw [List.take_succ_eq_append_getElem hlt, List.foldl_append, ← hb]; rfl
    refine ⟨es[k], by omega, List.getElem?_eq_getElem hlt, ?_⟩
    conv => whnf
    have hp := ct78 N hN es hes (sortedB_pairwise hs) (by omega) es[k].2 es[k].1 hc ha
    unfold pathRv at hp
    by_cases hd : dist N es es[k].2 es[k].1 < 0
    · rw [if_pos hd] at hp
      refine ⟨_, hp, ?_⟩
      conv => whnf
      refine ⟨_, wi _ (by omega) (by omega), ?_⟩
      conv => whnf
      refine ⟨(k + 1, best), ⟨by simp only; omega, by simp only; rw [htake, cycStep, if_pos hd], hbl⟩, by show es.length - (k + 1) < es.length - k; omega, ?_⟩
      repeat' (first | exact trivial | exact rfl | refine And.intro ?_ ?_)
    · rw [if_neg hd] at hp
      have hp := ct_read hp
      refine ⟨_, hp, ?_⟩
      conv => whnf
      have hpl := pathL_length (b := es[k].1) hes hc
      have hpne : 1 ≤ (pathL N es es[k].2 es[k].1).length := by unfold pathL; rw [pathD_length]; omega
      intro t ht
      have htf : t = false := ht (by show (pathL N es es[k].2 es[k].1).length ≠ 0; omega)
      subst htf
      conv => whnf
      refine draw_intro tyAll mixed 8 (by kernel_rfl) ?_
      conv => whnf
      refine ⟨Int, fun n _ => i64 n, [es[k].1], rfl, by decide, rfl, ?_⟩
      conv => whnf
      refine ⟨((pathL N es es[k].2 es[k].1).length - 1 : Nat), by show IntKind.i64.wrap (((pathL N es es[k].2 es[k].1).length : Int) - 1) = _; rw [wi _ (by omega) (by omega)]; omega, ?_⟩
      conv => whnf
      obtain ⟨pl, hpe⟩ : ∃ pl, pl = pathL N es es[k].2 es[k].1 := ⟨_, rfl⟩
      have hcyc : cycOf N es es[k] = es[k].1 :: pl.dropLast := by rw [hpe]; rfl
      have hcl : (cycOf N es es[k]).length = pl.length := by rw [hcyc, List.length_cons, List.length_dropLast]; rw [← hpe] at hpne; omega
      rw [← hpe] at hpl hpne ⊢
      clear hp ht
      refine ⟨by omega, by omega, by show ((pl.length - 1 : Nat) : Int) ≤ (pl.length : Int); omega, ?_⟩
      conv => whnf
      have htk : (pl.take (pl.length - 1)).drop 0 = pl.dropLast := by rw [List.drop_zero, List.dropLast_eq_take]
      refine ⟨(pl.take (pl.length - 1)).drop 0, rfl, by simp; omega, by simp; omega, ?_⟩
      rw [htk]
      conv => whnf
      rcases best with _ | b
      · conv => whnf
        refine ⟨_, wi _ (by omega) (by omega), ?_⟩
        conv => whnf
        refine ⟨(k + 1, some (cycOf N es es[k])), ⟨by simp only; omega, by simp only; rw [htake, cycStep, if_neg hd]; rfl, fun l h => ?_⟩, by show es.length - (k + 1) < es.length - k; omega, ?_⟩
        · cases h
          exact ⟨by rw [hcyc]; simp, by omega⟩
        · repeat' (first | exact trivial | exact rfl | refine And.intro ?_ ?_)
          show ints (cycOf N es es[k]) = ints (es[k].1 :: pl.dropLast)
          rw [hcyc]
      · obtain ⟨hbn, hbm⟩ := hbl b rfl
        have hb0 : b.length ≠ 0 := fun e => hbn (List.eq_nil_of_length_eq_zero e)
        have yes : better (cycOf N es es[k]) (some b) = true → (es.take (k + 1)).foldl (cycStep N es) none = some (cycOf N es es[k]) := fun h => by rw [htake, cycStep, if_neg hd, if_pos h]
        have no : better (cycOf N es es[k]) (some b) = false → (es.take (k + 1)).foldl (cycStep N es) none = some b := fun h => by rw [htake, cycStep, if_neg hd, if_neg (by rw [h]; simp)]
        have hpd : pl.dropLast.length = pl.length - 1 := List.length_dropLast
        conv => whnf
        intro t ht
        have htf : t = false := ht hb0
        subst htf
        conv => whnf
        intro _
        conv => whnf
        intro _
        conv => whnf
        refine acond_split (fun h3 => ?_) (fun h3 => ?_)
        · have h3 : ((es[k].1 :: pl.dropLast).length : Int) < b.length := of_decide_eq_true h3
          have hbt : better (cycOf N es es[k]) (some b) = true := by
            simp only [better, Bool.or_eq_true, decide_eq_true_eq]
            rw [hcyc]; left; omega
          conv => whnf
          refine ⟨_, wi _ (by omega) (by omega), ?_⟩
          conv => whnf
          refine ⟨(k + 1, some (cycOf N es es[k])), ⟨by simp only; omega, (yes hbt).symm, fun l h => ?_⟩, by show es.length - (k + 1) < es.length - k; omega, ?_⟩
          · cases h
            exact ⟨by rw [hcyc]; simp, by omega⟩
          · repeat' (first | exact trivial | exact rfl | refine And.intro ?_ ?_)
            show ints (cycOf N es es[k]) = ints (es[k].1 :: pl.dropLast)
            rw [hcyc]
        · have h3 : ¬ ((es[k].1 :: pl.dropLast).length : Int) < b.length := of_decide_eq_false h3
          conv => whnf
          intro _
          conv => whnf
          intro _
          conv => whnf
          refine acond_split (fun h4 => ?_) (fun h4 => ?_)
          · have h4 : ((es[k].1 :: pl.dropLast).length : Int) = b.length := of_decide_eq_true h4
            conv => whnf
            refine .inl ?_
            conv => whnf
            refine ⟨_, ct85 (es[k].1 :: pl.dropLast) b, .inl (flat_int _ _), ?_⟩
            conv => whnf
            refine acond_split (fun h5 => ?_) (fun h5 => ?_)
            · have h5 : cmpL (es[k].1 :: pl.dropLast) b < 0 := of_decide_eq_true h5
              have hbt : better (cycOf N es es[k]) (some b) = true := by
                simp only [better, Bool.or_eq_true, Bool.and_eq_true, decide_eq_true_eq]
                rw [hcyc]; right; exact ⟨by omega, h5⟩
              conv => whnf
              refine ⟨_, wi _ (by omega) (by omega), ?_⟩
              conv => whnf
              refine ⟨(k + 1, some (cycOf N es es[k])), ⟨by simp only; omega, (yes hbt).symm, fun l h => ?_⟩, by show es.length - (k + 1) < es.length - k; omega, ?_⟩
              · cases h
                exact ⟨by rw [hcyc]; simp, by omega⟩
              · repeat' (first | exact trivial | exact rfl | refine And.intro ?_ ?_)
                show ints (cycOf N es es[k]) = ints (es[k].1 :: pl.dropLast)
                rw [hcyc]
            · have h5 : ¬ cmpL (es[k].1 :: pl.dropLast) b < 0 := of_decide_eq_false h5
              have hbt : better (cycOf N es es[k]) (some b) = false := by
                rw [← Bool.not_eq_true]
                simp only [better, Bool.or_eq_true, Bool.and_eq_true, decide_eq_true_eq]
                rw [hcyc]; rintro (h | ⟨_, h⟩)
                · omega
                · exact h5 h
              conv => whnf
              refine ⟨_, wi _ (by omega) (by omega), ?_⟩
              conv => whnf
              refine ⟨(k + 1, some b), ⟨by simp only; omega, (no hbt).symm, hbl⟩, by show es.length - (k + 1) < es.length - k; omega, ?_⟩
              repeat' (first | exact trivial | exact rfl | refine And.intro ?_ ?_)
          · have h4 : ¬ ((es[k].1 :: pl.dropLast).length : Int) = b.length := of_decide_eq_false h4
            have hbt : better (cycOf N es es[k]) (some b) = false := by
              rw [← Bool.not_eq_true]
              simp only [better, Bool.or_eq_true, Bool.and_eq_true, decide_eq_true_eq]
              rw [hcyc]; rintro (h | ⟨h, _⟩)
              · omega
              · omega
            conv => whnf
            refine ⟨_, wi _ (by omega) (by omega), ?_⟩
            conv => whnf
            refine ⟨(k + 1, some b), ⟨by simp only; omega, (no hbt).symm, hbl⟩, by show es.length - (k + 1) < es.length - k; omega, ?_⟩
            repeat' (first | exact trivial | exact rfl | refine And.intro ?_ ?_)
  · have h2 := ndec h2
    conv => whnf
    have hk' : k = es.length := by omega
    subst hk'
    rw [List.take_length] at hb
    have hb' : cycL N es = best := hb.symm
    rw [hb']
    rcases best with _ | b
    · conv => whnf
      repeat' (first | exact trivial | exact rfl | refine And.intro ?_ ?_)
    · conv => whnf
      intro t ht
      have htf : t = false := ht (fun e => (hbl b rfl).1 (List.eq_nil_of_length_eq_zero e))
      subst htf
      conv => whnf
      repeat' (first | exact trivial | exact rfl | refine And.intro ?_ ?_)
end Go.Fx
