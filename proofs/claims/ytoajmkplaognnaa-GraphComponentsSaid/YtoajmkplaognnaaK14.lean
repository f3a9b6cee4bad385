/- Reach, Closure, Closed; chosen. Closure, Closed. The reference's Reach, Closure, Closed. -/
import Derived.Test.YtoajmkplaognnaaK11
import Derived.Test.YtoajmkplaognnaaK12
set_option linter.unusedVariables false
set_option linter.unusedSimpArgs false
set_option linter.unusedSectionVars false
namespace Go.Fx
open Go.Proofs Gr
set_option maxRecDepth 100000

theorem ct66 (xs ys : List (Int × Int)) : Ct Try.prog 66 [.one (edges xs), .one (edges ys)] (.c (.bool (decide (xs = ys)))) := by
  refine ct_of tyAll Try.func66 (by decide) rfl ?_
  conv => whnf
  intro hlen
  conv => whnf
  intro hlen2
  conv => whnf
  refine acond_split (fun h1 => ?_) (fun h1 => ?_)
  · have h1 := dec h1
    conv => whnf
    refine ⟨?_, trivial⟩
    show CVal.bool _ = CVal.bool _
    congr 1
    simp
    intro e
    exact h1 (by rw [e])
  have h1 := ndec h1
  conv => whnf
  have h1 : xs.length = ys.length := by omega
  intro hlen3
  conv => whnf
  refine ⟨Nat, fun k => k ≤ xs.length ∧ xs.take k = ys.take k, fun k => ⟨(sk 0 (.c (edges xs) :: (sk 0 (.c (edges ys) :: (sk 9 (.c (edges xs) :: (sk 0 (I xs.length :: (sk 0 (I k :: (sk 12 []))))))))))), [], []⟩, fun k => xs.length - k, 0, ⟨by omega, rfl⟩, ?_, fun k hk => ?_⟩
  · repeat' (first | exact trivial | exact rfl | refine And.intro ?_ ?_)
  obtain ⟨hk, hp⟩ := hk
  conv => whnf
  refine acond_split (fun h2 => ?_) (fun h2 => ?_)
  · have h2 := dec h2
    conv => whnf
    refine draw_intro tyAll mixed 9 (by kernel_rfl) ?_
    conv => whnf
    have hx : k < xs.length := by omega
    have hy : k < ys.length := by omega
    refine ⟨xs[k], by omega, List.getElem?_eq_getElem hx, ?_⟩
    conv => whnf
    refine ⟨ys[k], by omega, List.getElem?_eq_getElem hy, ?_⟩
    conv => whnf
    refine ⟨_, eqAgg32 xs[k] ys[k], ?_⟩
    conv => whnf
    refine acond_split (fun h3 => ?_) (fun h3 => ?_)
    · have h3 : xs[k] ≠ ys[k] := by simpa using h3
      conv => whnf
      refine ⟨?_, trivial⟩
      show CVal.bool _ = CVal.bool _
      congr 1
      refine decide_eq_false fun e => h3 ?_
      subst e
      rfl
    · have h3 : xs[k] = ys[k] := by simpa using h3
      conv => whnf
      refine ⟨_, wi _ (by omega) (by omega), ?_⟩
      conv => whnf
      refine ⟨k + 1, ⟨by omega, ?_⟩, by show xs.length - (k + 1) < xs.length - k; omega, ?_⟩
      · rw [List.take_succ_eq_append_getElem hx, List.take_succ_eq_append_getElem hy, hp, h3]
      repeat' (first | exact trivial | exact rfl | refine And.intro ?_ ?_)
  · have h2 := ndec h2
    conv => whnf
    refine ⟨?_, trivial⟩
    show CVal.bool _ = CVal.bool _
    congr 1
    have e : k = xs.length := by omega
    rw [List.take_of_length_le (by omega), List.take_of_length_le (by omega)] at hp
    exact decide_eq_true hp


theorem idx_nonneg (x : Int) : ∀ (xs : List Int) (k : Nat), 0 ≤ idx x xs k ↔ x ∈ xs
  | [], k => by simp [idx]
  | y :: l, k => by
    rw [idx]
    by_cases h : x = y
    · rw [if_pos h]; simp [h]
    · rw [if_neg h, idx_nonneg x l (k + 1)]; simp [h]

theorem ct44 (xs : List Int) (x : Int) : Ct Try.prog 44 [.one (ints xs), .one (i64 x)] (.c (.bool (decide (x ∈ xs)))) := by
  refine ct_of tyAll Try.func44 (by decide) rfl ?_
  conv => whnf
  refine ⟨_, ct60 xs x, ?_⟩
  conv => whnf
  refine ⟨?_, trivial⟩
  show CVal.bool _ = CVal.bool _
  congr 1
  exact decide_eq_decide.2 (idx_nonneg x xs 0).symm

/-- The nodes that a byte chooses. -/
def bitB (a : Int) (k : Nat) : Bool := decide (IntKind.u8.wrap (BitVec.ofInt IntKind.u8.bits (a.fdiv (2 ^ (min (k : Int).toNat IntKind.u8.bits))) &&& BitVec.ofInt IntKind.u8.bits 1).toNat = 1)
def chosenL (a : Int) : Nat → List Int
  | 0 => []
  | k + 1 => if bitB a k then chosenL a k ++ [(k : Int)] else chosenL a k

theorem chosen_length (a : Int) : ∀ k, (chosenL a k).length ≤ k
  | 0 => Nat.le_refl _
  | k + 1 => by
    have := chosen_length a k
    rw [chosenL]
    split
    · simp; omega
    · omega
theorem chosen_lt (a : Int) : ∀ k, ∀ x ∈ chosenL a k, 0 ≤ x ∧ x < (k : Int)
  | 0, x, h => by simp [chosenL] at h
  | k + 1, x, h => by
    have ih := chosen_lt a k x
    rw [chosenL] at h
    split at h
    · rcases List.mem_append.1 h with h | h
      · have := ih h; omega
      · have : x = k := by simpa using h
        omega
    · have := ih h; omega
theorem chosen_asc (a : Int) : ∀ k, (chosenL a k).Pairwise (· < ·)
  | 0 => List.Pairwise.nil
  | k + 1 => by
    rw [chosenL]
    split
    · refine List.pairwise_append.2 ⟨chosen_asc a k, List.pairwise_singleton _ _, fun x hx y hy => ?_⟩
      have : y = k := by simpa using hy
      have := chosen_lt a k x hx
      omega
    · exact chosen_asc a k

theorem ct36 (n : Int) (es : Es) (a : Int) : Ct Try.prog 36 [gA n es, .one (u8 a)] (.row (intsR (chosenL a (min n 8).toNat))) := by
  refine ct_of tyAll Try.func36 (by decide) rfl ?_
  conv => whnf
  refine ⟨rfl, ?_⟩
  conv => whnf
  refine ⟨Nat, fun k => k ≤ (min n 8).toNat, fun k => ⟨(sk 1 (.c (u8 a) :: (sk 0 (.p (.one (.lptr 2 0)) :: (sk 2 (W 100 0 :: (sk 3 (I (min n 8) :: (sk 0 (I k :: (sk 13 []))))))))))), [(2, [.c (i64 n), .c (edges es)])], [(100, (0, intsR (chosenL a k)))]⟩, fun k => (min n 8).toNat - k, 0, by omega, ?_, fun k hk => ?_⟩
  · repeat' (first | exact trivial | exact rfl | refine And.intro ?_ ?_)
  have hcl := chosen_length a k
  conv => whnf
  refine acond_split (fun h1 => ?_) (fun h1 => ?_)
  · have h1 := dec h1
    conv => whnf
    refine ⟨by omega, ?_⟩
    conv => whnf
    refine acond_split (fun h2 => ?_) (fun h2 => ?_)
    · have h2 : bitB a k = true := h2
      conv => whnf
      refine ⟨Int, fun n _ => i64 n, [(k : Int)], rfl, by decide, rfl, ?_⟩
      conv => whnf
      refine ⟨[(k : Int)], rfl, by simp; omega, by simp; omega, ?_⟩
      conv => whnf
      refine ⟨_, wi _ (by omega) (by omega), ?_⟩
      conv => whnf
      refine ⟨k + 1, by show k + 1 ≤ _; omega, by show _ - (k + 1) < _ - k; omega, ?_⟩
      repeat' (first | exact trivial | exact rfl | refine And.intro ?_ ?_)
      show intsR (chosenL a k ++ [(k : Int)]) = intsR (chosenL a (k + 1))
      rw [chosenL, if_pos h2]
    · have h2 : bitB a k = false := h2
      conv => whnf
      refine ⟨_, wi _ (by omega) (by omega), ?_⟩
      conv => whnf
      refine ⟨k + 1, by show k + 1 ≤ _; omega, by show _ - (k + 1) < _ - k; omega, ?_⟩
      repeat' (first | exact trivial | exact rfl | refine And.intro ?_ ?_)
      show intsR (chosenL a k) = intsR (chosenL a (k + 1))
      rw [chosenL, if_neg (by simp [h2])]
  · have h1 := ndec h1
    conv => whnf
    have hk : k = (min n 8).toNat := by have : k ≤ (min n 8).toNat := hk; omega
    subst hk
    refine ⟨?_, trivial⟩
    rfl

theorem listedL_length : ∀ (l : List Bool) (k : Nat), (listedL l k).length ≤ l.length
  | [], _ => Nat.le_refl _
  | b :: l, k => by
    have := listedL_length l (k + 1)
    rw [listedL]
    split <;> simp <;> omega
theorem reachL_length (n : Nat) (es : Es) (src : List Int) : (reachL n es src).length = n := by simp [reachL]
/-- What is reached, as a list. -/
def reachI (n : Nat) (es : Es) (src : List Int) : List Int := listedL (reachL n es src) 0
theorem reachI_length (n : Nat) (es : Es) (src : List Int) : (reachI n es src).length ≤ n := by
  have := listedL_length (reachL n es src) 0
  rw [reachL_length] at this
  exact this

def reachRv (n : Int) (es : Es) (l : List Int) : Rv :=
  if readyE n es l = 0 then .tup [.one (.row 0 (intsR (reachI n.toNat es l))), .one (.c (i64 0))] else .tup [.one (.c .nil), .one (.c (i64 (readyE n es l)))]

theorem ct37 (n : Int) (es : Es) (l : List Int) (hll : l.length ≤ 1000000) : Ct Try.prog 37 [gA n es, .one (ints l)] (reachRv n es l) := by
  refine ct_of tyAll Try.func37 (by decide) rfl ?_
  conv => whnf
  refine ⟨_, ct86 n es l, ?_⟩
  conv => whnf
  refine acond_split (fun h1 => ?_) (fun h1 => ?_)
  · have h1 := dec h1
    conv => whnf
    rw [reachRv, if_neg h1]
    conv => whnf
    repeat' (first | exact trivial | exact rfl | refine And.intro ?_ ?_)
  have h1 : readyE n es l = 0 := Decidable.not_not.1 (of_decide_eq_false h1)
  rw [reachRv, if_pos h1]
  obtain ⟨hc, hne⟩ := ready_ok h1
  obtain ⟨N, rfl, hN, hes, hl, _⟩ := check_ok hc
  rw [Int.toNat_natCast]
  conv => whnf
  refine ⟨_, ct88 N hN es hes (by omega) l (nodes_in hne).1 hll, ?_⟩
  conv => whnf
  refine .inl ?_
  conv => whnf
  refine ⟨_, ct87 (reachL N es l) (by rw [reachL_length]; omega), .inl (fun x i => flat_int _ _), ?_⟩
  conv => whnf
  repeat' (first | exact trivial | exact rfl | refine And.intro ?_ ?_)
end Go.Fx

namespace Go.Fx
open Go.Proofs Gr
set_option maxRecDepth 100000

def closI (n : Nat) (es : Es) : List (List Int) := (List.range n).map fun (a : Nat) => reachI n es [(a : Int)]
def closRv (n : Int) (es : Es) : Rv :=
  if checkG n es = 0 then .tup [.one (.row 0 (tableR (closI n.toNat es))), .one (.c (i64 0))] else .tup [.one (.c .nil), .one (.c (i64 (checkG n es)))]
theorem closI_take {n : Nat} {es : Es} {k : Nat} (h : k < n) : (closI n es).take (k + 1) = (closI n es).take k ++ [reachI n es [(k : Int)]] := by
  have hl : k < (closI n es).length := by simpa [closI] using h
  rw [List.take_succ_eq_append_getElem hl]
  congr 1
  simp [closI]

theorem ct62 (n : Int) (es : Es) : Ct Try.prog 62 [gA n es] (closRv n es) := by
  refine ct_of tyAll Try.func62 (by decide) rfl ?_
  conv => whnf
  refine ⟨_, ct21 n es, ?_⟩
  conv => whnf
  refine acond_split (fun h1 => ?_) (fun h1 => ?_)
  · have h1 := dec h1
    conv => whnf
    rw [closRv, if_neg h1]
    conv => whnf
    repeat' (first | exact trivial | exact rfl | refine And.intro ?_ ?_)
  have h1 : checkG n es = 0 := Decidable.not_not.1 (of_decide_eq_false h1)
  rw [closRv, if_pos h1, h1]
  obtain ⟨N, rfl, hN, hes, hl, _⟩ := check_ok h1
  rw [Int.toNat_natCast]
  conv => whnf
  refine ⟨_, ct101 N hN es hes (by omega), ?_⟩
  conv => whnf
  intro hlen
  conv => whnf
  have hcl : (closureL N es).length = N := by simp [closureL]
  have hcl2 : (closI N es).length = N := by simp [closI]
  refine ⟨Nat, fun k => k ≤ N, fun k => ⟨(sk 5 (W 100 0 :: (sk 8 (W 14 0 :: (sk 0 (I N :: (sk 0 (I k :: (sk 10 []))))))))), [], [(14, (0, btableR (closureL N es))), (100, (0, tableR ((closI N es).take k)))]⟩, fun k => N - k, 0, by omega, ?_, fun k hk => ?_⟩
  · repeat' (first | exact trivial | exact rfl | refine And.intro ?_ ?_)
    show i64 (closureL N es).length = i64 N
    rw [hcl]
  have hk : k ≤ N := hk
  conv => whnf
  refine acond_split (fun h2 => ?_) (fun h2 => ?_)
  · have h2 := dec h2
    conv => whnf
    have hlt : k < N := by omega
    have hlt2 : k < (closureL N es).length := by omega
    have hrow : (closureL N es)[k]? = some (reachL N es [(k : Int)]) := by
      rw [List.getElem?_eq_getElem hlt2]
      simp [closureL]
    refine ⟨by omega, (by show (k : Int) < (closureL N es).length; omega), ?_⟩
    conv => whnf
    refine ⟨reachL N es [(k : Int)], hrow, ?_⟩
    conv => whnf
    refine ⟨_, ct87 (reachL N es [(k : Int)]) (by rw [reachL_length]; omega), ?_⟩
    conv => whnf
    refine ⟨List Int, fun r _ => ints r, [reachI N es [(k : Int)]], rfl, by decide, rfl, ?_⟩
    conv => whnf
    refine ⟨[reachI N es [(k : Int)]], rfl, by simp; omega, by simp; omega, ?_⟩
    conv => whnf
    refine ⟨_, wi _ (by omega) (by omega), ?_⟩
    conv => whnf
    refine ⟨k + 1, by show k + 1 ≤ N; omega, by show N - (k + 1) < N - k; omega, ?_⟩
    repeat' (first | exact trivial | exact rfl | refine And.intro ?_ ?_)
    show tableR ((closI N es).take k ++ [reachI N es [(k : Int)]]) = tableR ((closI N es).take (k + 1))
    rw [closI_take hlt]
  · have h2 := ndec h2
    conv => whnf
    have hk' : k = N := by omega
    subst hk'
    repeat' (first | exact trivial | exact rfl | refine And.intro ?_ ?_)
    show tableR (closI k es) = tableR ((closI k es).take k)
    rw [List.take_of_length_le (by omega)]

def closedB (es : Es) (l : List Int) : Bool := es.all fun e => !(decide (e.1 ∈ l) && !decide (e.2 ∈ l))
def closedRv (n : Int) (es : Es) (l : List Int) : Rv :=
  if readyE n es l = 0 then .tup [.one (.c (.bool (closedB es l))), .one (.c (i64 0))] else .tup [.one (.c (.bool false)), .one (.c (i64 (readyE n es l)))]

theorem ct38 (n : Int) (es : Es) (l : List Int) : Ct Try.prog 38 [gA n es, .one (ints l)] (closedRv n es l) := by
  refine ct_of tyAll Try.func38 (by decide) rfl ?_
  conv => whnf
  refine ⟨_, ct86 n es l, ?_⟩
  conv => whnf
  refine acond_split (fun h1 => ?_) (fun h1 => ?_)
  · have h1 := dec h1
    conv => whnf
    rw [closedRv, if_neg h1]
    conv => whnf
    repeat' (first | exact trivial | exact rfl | refine And.intro ?_ ?_)
  have h1 : readyE n es l = 0 := Decidable.not_not.1 (of_decide_eq_false h1)
  rw [closedRv, if_pos h1]
  conv => whnf
  intro hlen
  conv => whnf
  refine ⟨Nat, fun k => k ≤ es.length ∧ closedB (es.take k) l = true, fun k => ⟨(sk 1 (.c (ints l) :: (sk 14 (.c (edges es) :: (sk 0 (I es.length :: (sk 0 (I k :: (sk 15 []))))))))), [], []⟩, fun k => es.length - k, 0, ⟨by omega, rfl⟩, ?_, fun k hk => ?_⟩
  · repeat' (first | exact trivial | exact rfl | refine And.intro ?_ ?_)
  obtain ⟨hk, hp⟩ := hk
  conv => whnf
  refine acond_split (fun h2 => ?_) (fun h2 => ?_)
  · have h2 := dec h2
    conv => whnf
    have hlt : k < es.length := by omega
    have hstep : closedB (es.take (k + 1)) l = !(decide (es[k].1 ∈ l) && !decide (es[k].2 ∈ l)) := by
      unfold closedB at hp ⊢
      rw [List.take_succ_eq_append_getElem hlt, List.all_append, hp]
      simp
    have hall : (!(decide (es[k].1 ∈ l) && !decide (es[k].2 ∈ l))) = false → closedB es l = false := fun h => by
      unfold closedB
      rw [List.all_eq_false]
      exact ⟨es[k], List.getElem_mem hlt, by rw [h]; simp⟩
    refine ⟨es[k], by omega, List.getElem?_eq_getElem hlt, ?_⟩
    conv => whnf
    refine ⟨_, ct44 l es[k].1, ?_⟩
    conv => whnf
    refine acond_split (fun h3 => ?_) (fun h3 => ?_)
    · conv => whnf
      refine ⟨_, ct44 l es[k].2, ?_⟩
      conv => whnf
      refine acond_split (fun h4 => ?_) (fun h4 => ?_)
      · conv => whnf
        repeat' (first | exact trivial | exact rfl | refine And.intro ?_ ?_)
        show CVal.bool _ = CVal.bool false
        rw [hall (by rw [h3, h4]; rfl)]
      · conv => whnf
        refine ⟨_, wi _ (by omega) (by omega), ?_⟩
        conv => whnf
        refine ⟨k + 1, ⟨by omega, by rw [hstep, h4]; simp⟩, by show es.length - (k + 1) < es.length - k; omega, ?_⟩
        repeat' (first | exact trivial | exact rfl | refine And.intro ?_ ?_)
    · conv => whnf
      refine ⟨_, wi _ (by omega) (by omega), ?_⟩
      conv => whnf
      refine ⟨k + 1, ⟨by omega, by rw [hstep, h3]; simp⟩, by show es.length - (k + 1) < es.length - k; omega, ?_⟩
      repeat' (first | exact trivial | exact rfl | refine And.intro ?_ ?_)
  · have h2 := ndec h2
    conv => whnf
    repeat' (first | exact trivial | exact rfl | refine And.intro ?_ ?_)
    show CVal.bool _ = CVal.bool true
    rw [List.take_of_length_le (by omega)] at hp
    rw [hp]
end Go.Fx

namespace Go.Fx
open Go.Proofs Gr
set_option maxRecDepth 100000

theorem dist_within {n : Nat} {es : Es} (hes : inR n es) {a b : Int} (ha : 0 ≤ a ∧ a < n) : decide (0 ≤ dist n es a b) = within es n a b := by
  rcases dist_spec (b := b) hes ha with ⟨d, h1, h2⟩ | ⟨h1, h2⟩
  · rw [h1, within_n hes ha h2.1]
    simp
  · rw [h1, h2 n]
    rfl

theorem reachL_get {n : Nat} {es : Es} {l : List Int} {k : Nat} (h : k < n) : (reachL n es l)[k]'(by rw [reachL_length]; exact h) = l.any fun a => within es n a (k : Int) := by
  simp [reachL]
theorem listed_step {l : List Bool} {k : Nat} (h : k < l.length) : listedL (l.take (k + 1)) 0 = if l[k] then listedL (l.take k) 0 ++ [(k : Int)] else listedL (l.take k) 0 := by
  rw [List.take_succ_eq_append_getElem h, listedL_append, List.length_take, Nat.min_eq_left (by omega)]
  simp only [listedL, Nat.zero_add]
  split <;> simp
theorem listed_take_length (l : List Bool) (k : Nat) : (listedL (l.take k) 0).length ≤ k := by
  have := listedL_length (l.take k) 0
  have h2 : (l.take k).length ≤ k := by rw [List.length_take]; omega
  omega

set_option maxHeartbeats 1000000 in
theorem ct63 (n : Nat) (hn : n ≤ 64) (es : Es) (hes : inR n es) (hl : es.length ≤ 1000000) (l : List Int) (hll : ∀ a ∈ l, 0 ≤ a ∧ a < (n : Int)) :
    Ct Try.prog 63 [rA n es, .one (ints l)] (.row (intsR (reachI n es l))) := by
  refine ct_of tyAll Try.func63 (by decide) rfl ?_
  obtain ⟨T, hT⟩ : ∃ T, T = tableL n es := ⟨_, rfl⟩
  have hI : IsTab n es T := by rw [hT]; exact tableL_is n es
  have h79 := ct79 n hn es hes hl
  rw [← hT] at h79
  clear hT
  obtain ⟨hTl, hTr⟩ := hI
  conv => whnf
  refine ⟨_, h79, ?_⟩
  conv => whnf
  refine ⟨Nat × List Int, fun i => i.1 ≤ n ∧ i.2 = listedL ((reachL n es l).take i.1) 0, fun i => ⟨(sk 1 (.c (ints l) :: (sk 0 (.p (.one (.lptr 2 0)) :: (sk 2 (W 11 0 :: (sk 0 (W 100 0 :: (sk 0 (I i.1 :: (sk 36 []))))))))))), [(2, [.c (i64 n), .c (prs es)])], [(11, (0, tableR T)), (100, (0, intsR i.2))]⟩, fun i => n - i.1, (0, []), ⟨by simp, by simp [listedL]⟩, ?_, fun i hi => ?_⟩
  · repeat' (first | exact trivial | exact rfl | refine And.intro ?_ ?_)
  obtain ⟨k, out⟩ := i
  obtain ⟨hk, ho⟩ := hi
  simp only at hk ho
  simp only [awp]
  conv => whnf
  refine acond_split (fun h1 => ?_) (fun h1 => ?_)
  · have h1 := dec h1
    conv => whnf
    have hlt : k < n := by omega
    have hstep := listed_step (l := reachL n es l) (k := k) (by rw [reachL_length]; exact hlt)
    rw [reachL_get hlt] at hstep
    have hol := listed_take_length (reachL n es l) k
    rw [← ho] at hol hstep
    refine ⟨Nat × Bool, fun j => j.1 ≤ l.length ∧ j.2 = (l.take j.1).any fun a => within es n a (k : Int), fun j => ⟨(sk 1 (.c (ints l) :: (sk 0 (.p (.one (.lptr 2 0)) :: (sk 2 (W 11 0 :: (sk 0 (W 100 0 :: (sk 0 (I k :: (sk 0 (.c (.bool j.2) :: (sk 0 (I j.1 :: (sk 34 []))))))))))))))), [(2, [.c (i64 n), .c (prs es)])], [(11, (0, tableR T)), (100, (0, intsR out))]⟩, fun j => l.length - j.1, (0, false), ⟨by simp, by simp⟩, ?_, fun j hj => ?_⟩
    · repeat' (first | exact trivial | exact rfl | refine And.intro ?_ ?_)
    obtain ⟨j, b⟩ := j
    obtain ⟨hj, hb⟩ := hj
    simp only at hj hb
    simp only [awp]
    conv => whnf
    intro _
    conv => whnf
    refine acond_split (fun h2 => ?_) (fun h2 => ?_)
    · have h2 := dec h2
      conv => whnf
      have hjl : j < l.length := by omega
      have hstep2 : ((l.take (j + 1)).any fun a => within es n a (k : Int)) = (b || within es n l[j] (k : Int)) := by
        rw [List.take_succ_eq_append_getElem hjl, List.any_append, ← hb]
        simp
      obtain ⟨ha0, ha1⟩ := hll _ (List.getElem_mem hjl)
      have haT : l[j].toNat < T.length := by omega
      obtain ⟨hrl, hrow⟩ := hTr l[j].toNat haT
      obtain ⟨row, hrw⟩ : ∃ row, row = T[l[j].toNat] := ⟨_, rfl⟩
      have hTa : T[l[j].toNat]? = some row := by rw [hrw]; exact List.getElem?_eq_getElem haT
      have hget : row[(k : Int).toNat]? = some (dist n es l[j] k) := by
        rw [hrw, hrow _ (by omega), Int.toNat_natCast, show ((l[j].toNat : Nat) : Int) = l[j] by omega]
      have hdw := dist_within (b := (k : Int)) hes ⟨ha0, ha1⟩
      cases b with
      | true =>
        conv => whnf
        refine ⟨_, wi _ (by omega) (by omega), ?_⟩
        conv => whnf
        refine ⟨(j + 1, true), ⟨by simp only; omega, by simp only; rw [hstep2]; rfl⟩, by show l.length - (j + 1) < l.length - j; omega, ?_⟩
        repeat' (first | exact trivial | exact rfl | refine And.intro ?_ ?_)
      | false =>
        conv => whnf
        refine ⟨l[j], by omega, List.getElem?_eq_getElem hjl, ?_⟩
        conv => whnf
        refine ⟨ha0, (by show l[j] < (T.length : Int); omega), ?_⟩
        conv => whnf
        refine ⟨row, hTa, ?_⟩
        conv => whnf
        refine ⟨dist n es l[j] k, by omega, hget, ?_⟩
        conv => whnf
        refine ⟨_, wi _ (by omega) (by omega), ?_⟩
        conv => whnf
        refine ⟨(j + 1, decide (0 ≤ dist n es l[j] k)), ⟨by simp only; omega, by simp only; rw [hstep2, hdw]; rfl⟩, by show l.length - (j + 1) < l.length - j; omega, ?_⟩
        repeat' (first | exact trivial | exact rfl | refine And.intro ?_ ?_)
    · have h2 := ndec h2
      conv => whnf
      have hj' : j = l.length := by omega
      rw [hj', List.take_length] at hb
      rw [← hb] at hstep
      cases b with
      | true =>
        conv => whnf
        refine ⟨Int, fun n _ => i64 n, [(k : Int)], rfl, by decide, rfl, ?_⟩
        conv => whnf
        refine ⟨[(k : Int)], rfl, by simp; omega, by simp; omega, ?_⟩
        conv => whnf
        refine ⟨_, wi _ (by omega) (by omega), ?_⟩
        conv => whnf
        refine ⟨(k + 1, out ++ [(k : Int)]), ⟨by simp only; omega, by simp only; rw [hstep]; rfl⟩, by show n - (k + 1) < n - k; omega, ?_⟩
        repeat' (first | exact trivial | exact rfl | refine And.intro ?_ ?_)
      | false =>
        conv => whnf
        refine ⟨_, wi _ (by omega) (by omega), ?_⟩
        conv => whnf
        refine ⟨(k + 1, out), ⟨by simp only; omega, by simp only; rw [hstep]; rfl⟩, by show n - (k + 1) < n - k; omega, ?_⟩
        repeat' (first | exact trivial | exact rfl | refine And.intro ?_ ?_)
  · have h1 := ndec h1
    conv => whnf
    have hk' : k = n := by omega
    subst hk'
    refine ⟨?_, trivial⟩
    show intsR (listedL (reachL k es l) 0) = intsR out
    rw [ho, List.take_of_length_le (by rw [reachL_length]; exact Nat.le_refl _)]
end Go.Fx
