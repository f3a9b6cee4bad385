/- few, equality of pairs, the reference's inside and Has. The reference's Make. Make. Plain: the condensation. condense, Condense, Components. ContainsFunc of edges, Components, Sinks. -/
import Derived.Test.YtoajmkplaognnaaK4
import Derived.Laws.StructEq
import Derived.ChangeKeysEq
import Derived.Test.YtoajmkplaognnaaK5
import Derived.Test.YtoajmkplaognnaaK6
set_option linter.unusedVariables false
set_option linter.unusedSimpArgs false
set_option linter.unusedSectionVars false
namespace Go.Fx
open Go.Proofs
set_option maxRecDepth 100000

theorem eqAgg_of {P : Program} {t : TypeId} {x y : Int × Int} (hg : P.eqGuardType P.depth t = false)
    (h : ∀ w, (Op.equal t (.agg #[.int .i64 x.1, .int .i64 x.2]) (.agg #[.int .i64 y.1, .int .i64 y.2])).run P w = .ok (decide (x = y)) w) :
    EqAgg P t [i64 x.1, i64 x.2] [i64 y.1, i64 y.2] (decide (x = y)) := by
  intro w X vx vy op a b hx hy
  match vx, vy, hx, hy with
  | [_, _], [_, _], ⟨rfl, rfl, _⟩, ⟨rfl, rfl, _⟩ => exact ⟨run_eqGuard_agg w op t a b _ _ hg, h w⟩

theorem eqAgg32 (x y : Int × Int) : EqAgg Try.prog 32 [i64 x.1, i64 x.2] [i64 y.1, i64 y.2] (decide (x = y)) := by
  refine eqAgg_of (by kernel_rfl) fun w => ?_
  have u3 := Try.underlying3
  have a3 := Try.isAgg3
  have z3 := Try.sizeOf3
  have hS : Try.prog.underlying 32 = some (.struct (Try.prog.fieldsOf 32)) := by kernel_rfl
  have hp : Try.prog.stoodInHeld 32 = false := by kernel_rfl
  simp only [Op.equal, Op.maxDepth]
  rw [show (10000 : Nat) = 9999 + 1 from rfl, run_equalIn_agg w 9999 32 _ _ hS hp]
  simp only [Program.fieldsOf, Try.underlying32]
  go_simp
  obtain ⟨x1, x2⟩ := x
  obtain ⟨y1, y2⟩ := y
  by_cases h1 : x1 = y1 <;> by_cases h2 : x2 = y2 <;> simp [h1, h2]

theorem eqAgg85 (x y : Int × Int) : EqAgg Try.prog 85 [i64 x.1, i64 x.2] [i64 y.1, i64 y.2] (decide (x = y)) := by
  refine eqAgg_of (by kernel_rfl) fun w => ?_
  have u3 := Try.underlying3
  have a3 := Try.isAgg3
  have z3 := Try.sizeOf3
  have u85 := Try.underlying85
  simp only [Op.equal, Op.maxDepth]
  have hi0 : (Try.prog.info? 3).isSome = true := by kernel_rfl
  obtain ⟨i, hi⟩ := Option.isSome_iff_exists.1 hi0
  have hc : Try.prog.cellsOf 3 = 1 := by kernel_rfl
  rw [show (10000 : Nat) = 9999 + 1 from rfl, run_equalIn_array w 9999 _ _ u85 hi, hc]
  obtain ⟨x1, x2⟩ := x
  obtain ⟨y1, y2⟩ := y
  simp only [List.range_succ_eq_map, List.range_zero, List.map_cons, List.map_nil, Op.eqItems]
  go_simp
  by_cases h1 : x1 = y1 <;> by_cases h2 : x2 = y2 <;> simp [h1, h2]
end Go.Fx

namespace Go.Fx
open Go.Proofs
set_option maxRecDepth 100000

theorem ct15 (n : Int) (es : List (Int × Int)) : Ct Try.prog 15 [gA n es] (.c (.bool (decide (es.length ≤ 24 ∧ (n ≤ 8 ∨ 64 < n))))) := by
  refine ct_of tyAll Try.func15 (by decide) rfl ?_
  conv => whnf
  intro hlen
  conv => whnf
  refine acond_split (fun h1 => ?_) (fun h1 => ?_)
  · have h1 := dec h1
    conv => whnf
    refine acond_split (fun h2 => ?_) (fun h2 => ?_)
    · have h2 := dec h2
      conv => whnf
      refine ⟨?_, trivial⟩
      show CVal.bool _ = CVal.bool _
      congr 1
      first | (refine decide_eq_true ?_; omega) | (refine decide_eq_false ?_; omega) | (refine decide_eq_decide.2 ?_; omega)
    · have h2 := ndec h2
      conv => whnf
      refine ⟨?_, trivial⟩
      show CVal.bool _ = CVal.bool _
      congr 1
      first | (refine decide_eq_true ?_; omega) | (refine decide_eq_false ?_; omega) | (refine decide_eq_decide.2 ?_; omega)
  · have h1 := ndec h1
    conv => whnf
    refine ⟨?_, trivial⟩
    show CVal.bool _ = CVal.bool _
    congr 1
    first | (refine decide_eq_true ?_; omega) | (refine decide_eq_false ?_; omega) | (refine decide_eq_decide.2 ?_; omega)

/-- pairs that are read. -/
abbrev prs (es : List (Int × Int)) : CVal := .sl (Int × Int) 2 eC es

theorem ct76 (xs ys : List (Int × Int)) : Ct Try.prog 76 [.one (prs xs), .one (prs ys)] (.c (.bool (decide (xs = ys)))) := by
  refine ct_of tyAll Try.func76 (by decide) rfl ?_
  conv => whnf
  intro hlen
  conv => whnf
  intro hlen2
  conv => whnf
  refine acond_split (fun h1 => ?_) (fun h1 => ?_)
  · have h1 := dec h1
    conv => whnf
    refine ⟨?_, trivial⟩
    show CVal.bool _ = CVal.bool _
    congr 1
    simp
    intro e
    exact h1 (by rw [e])
  have h1 := ndec h1
  conv => whnf
  have h1 : xs.length = ys.length := by omega
  intro hlen3
  conv => whnf
  refine ⟨Nat, fun k => k ≤ xs.length ∧ xs.take k = ys.take k, fun k => ⟨(sk 0 (.c (prs xs) :: (sk 0 (.c (prs ys) :: (sk 9 (.c (prs xs) :: (sk 0 (I xs.length :: (sk 0 (I k :: (sk 12 []))))))))))), [], []⟩, fun k => xs.length - k, 0, ⟨by omega, rfl⟩, ?_, fun k hk => ?_⟩
  · repeat' (first | exact trivial | exact rfl | refine And.intro ?_ ?_)
  obtain ⟨hk, hp⟩ := hk
  conv => whnf
  refine acond_split (fun h2 => ?_) (fun h2 => ?_)
  · have h2 := dec h2
    conv => whnf
    refine draw_intro tyAll mixed 9 (by kernel_rfl) ?_
    conv => whnf
    have hx : k < xs.length := by omega
    have hy : k < ys.length := by omega
    refine ⟨xs[k], by omega, List.getElem?_eq_getElem hx, ?_⟩
    conv => whnf
    refine ⟨ys[k], by omega, List.getElem?_eq_getElem hy, ?_⟩
    conv => whnf
    refine ⟨_, eqAgg85 xs[k] ys[k], ?_⟩
    conv => whnf
    refine acond_split (fun h3 => ?_) (fun h3 => ?_)
    · have h3 : xs[k] ≠ ys[k] := by simpa using h3
      conv => whnf
      refine ⟨?_, trivial⟩
      show CVal.bool _ = CVal.bool _
      congr 1
      refine decide_eq_false fun e => h3 ?_
      subst e
      rfl
    · have h3 : xs[k] = ys[k] := by simpa using h3
      conv => whnf
      refine ⟨_, wi _ (by omega) (by omega), ?_⟩
      conv => whnf
      refine ⟨k + 1, ⟨by omega, ?_⟩, by show xs.length - (k + 1) < xs.length - k; omega, ?_⟩
      · rw [List.take_succ_eq_append_getElem hx, List.take_succ_eq_append_getElem hy, hp, h3]
      repeat' (first | exact trivial | exact rfl | refine And.intro ?_ ?_)
  · have h2 := ndec h2
    conv => whnf
    refine ⟨?_, trivial⟩
    show CVal.bool _ = CVal.bool _
    congr 1
    have e : k = xs.length := by omega
    rw [List.take_of_length_le (by omega), List.take_of_length_le (by omega)] at hp
    exact decide_eq_true hp

abbrev rA (n : Int) (es : List (Int × Int)) : Av := .agg [i64 n, prs es]

/-- Both nodes of all edges exist. -/
def insideB (n : Int) (es : List (Int × Int)) : Bool := es.all fun e => decide ((0 ≤ e.1 ∧ e.1 < n) ∧ 0 ≤ e.2 ∧ e.2 < n)

theorem insideB_iff (n : Int) (es : List (Int × Int)) : insideB n es = true ↔ ∀ e ∈ es, (0 ≤ e.1 ∧ e.1 < n) ∧ 0 ≤ e.2 ∧ e.2 < n := by
  unfold insideB
  rw [List.all_eq_true]
  exact forall_congr' fun e => forall_congr' fun _ => decide_eq_true_iff

theorem inside_bad {n : Int} {es : List (Int × Int)} {k : Nat} (hx : k < es.length) (h : ¬ ((0 ≤ es[k].1 ∧ es[k].1 < n) ∧ 0 ≤ es[k].2 ∧ es[k].2 < n)) : insideB n es = false := by
  rw [← Bool.not_eq_true]
  intro h2
  exact h ((insideB_iff n es).1 h2 _ (List.getElem_mem hx))

theorem ct74 (n : Int) (es : List (Int × Int)) : Ct Try.prog 74 [.one (i64 n), .one (prs es)] (.c (.bool (insideB n es))) := by
  refine ct_of tyAll Try.func74 (by decide) rfl ?_
  conv => whnf
  refine ⟨Nat, fun k => k ≤ es.length ∧ ∀ j, (h : j < k) → (h' : j < es.length) → (0 ≤ es[j].1 ∧ es[j].1 < n) ∧ 0 ≤ es[j].2 ∧ es[j].2 < n, fun k => ⟨(sk 0 (I n :: (sk 0 (.c (prs es) :: (sk 3 (I k :: (sk 28 []))))))), [], []⟩, fun k => es.length - k, 0, ⟨by omega, fun j h => by omega⟩, ?_, fun k hk => ?_⟩
  · repeat' (first | exact trivial | exact rfl | refine And.intro ?_ ?_)
  obtain ⟨hk, hp⟩ := hk
  conv => whnf
  intro hlen
  conv => whnf
  refine acond_split (fun h1 => ?_) (fun h1 => ?_)
  · have h1 := dec h1
    conv => whnf
    have hx : k < es.length := by omega
    refine ⟨Nat, fun i => i ≤ 2 ∧ (1 ≤ i → 0 ≤ es[k].1 ∧ es[k].1 < n) ∧ (2 ≤ i → 0 ≤ es[k].2 ∧ es[k].2 < n), fun i => ⟨(sk 0 (I n :: (sk 0 (.c (prs es) :: (sk 3 (I k :: (sk 0 (I i :: (sk 27 []))))))))), [], []⟩, fun i => 2 - i, 0, ⟨by omega, by omega, by omega⟩, ?_, fun i hi => ?_⟩
    · repeat' (first | exact trivial | exact rfl | refine And.intro ?_ ?_)
    obtain ⟨hi, hi1, hi2⟩ := hi
    conv => whnf
    refine acond_split (fun h2 => ?_) (fun h2 => ?_)
    · have h2 := dec h2
      conv => whnf
      rcases Nat.lt_or_ge i 1 with hi0 | hi0
      · obtain rfl : i = 0 := by omega
        refine ⟨es[k], by omega, List.getElem?_eq_getElem hx, ?_⟩
        conv => whnf
        refine ⟨by omega, by omega, ?_⟩
        conv => whnf
        refine acond_split (fun h3 => ?_) (fun h3 => ?_)
        · have h3 := dec h3
          conv => whnf
          refine ⟨?_, trivial⟩
          show CVal.bool _ = CVal.bool _
          congr 1
          exact inside_bad hx (fun h => by have h3' : es[k].1 < 0 := h3; omega)
        · have h3 := ndec h3
          conv => whnf
          refine ⟨es[k], by omega, List.getElem?_eq_getElem hx, ?_⟩
          conv => whnf
          refine ⟨by omega, by omega, ?_⟩
          conv => whnf
          refine acond_split (fun h4 => ?_) (fun h4 => ?_)
          · have h4 := dec h4
            conv => whnf
            refine ⟨?_, trivial⟩
            show CVal.bool _ = CVal.bool _
            congr 1
            exact inside_bad hx (fun h => by have h4' : n ≤ es[k].1 := h4; omega)
          · have h4 := ndec h4
            conv => whnf
            refine ⟨_, wi _ (by omega) (by omega), ?_⟩
            conv => whnf
            have h3' : ¬ es[k].1 < 0 := h3
            have h4' : ¬ n ≤ es[k].1 := h4
            refine ⟨1, ⟨by omega, fun _ => by omega, by omega⟩, by show 2 - 1 < 2 - 0; omega, ?_⟩
            repeat' (first | exact trivial | exact rfl | refine And.intro ?_ ?_)
      · obtain rfl : i = 1 := by omega
        refine ⟨es[k], by omega, List.getElem?_eq_getElem hx, ?_⟩
        conv => whnf
        refine ⟨by omega, by omega, ?_⟩
        conv => whnf
        refine acond_split (fun h3 => ?_) (fun h3 => ?_)
        · have h3 := dec h3
          conv => whnf
          refine ⟨?_, trivial⟩
          show CVal.bool _ = CVal.bool _
          congr 1
          exact inside_bad hx (fun h => by have h3' : es[k].2 < 0 := h3; omega)
        · have h3 := ndec h3
          conv => whnf
          refine ⟨es[k], by omega, List.getElem?_eq_getElem hx, ?_⟩
          conv => whnf
          refine ⟨by omega, by omega, ?_⟩
          conv => whnf
          refine acond_split (fun h4 => ?_) (fun h4 => ?_)
          · have h4 := dec h4
            conv => whnf
            refine ⟨?_, trivial⟩
            show CVal.bool _ = CVal.bool _
            congr 1
            exact inside_bad hx (fun h => by have h4' : n ≤ es[k].2 := h4; omega)
          · have h4 := ndec h4
            conv => whnf
            refine ⟨_, wi _ (by omega) (by omega), ?_⟩
            conv => whnf
            have h3' : ¬ es[k].2 < 0 := h3
            have h4' : ¬ n ≤ es[k].2 := h4
            refine ⟨2, ⟨by omega, fun _ => hi1 (by omega), fun _ => by omega⟩, by show 2 - 2 < 2 - 1; omega, ?_⟩
            repeat' (first | exact trivial | exact rfl | refine And.intro ?_ ?_)
    · have h2 := ndec h2
      conv => whnf
      refine ⟨_, wi _ (by omega) (by omega), ?_⟩
      conv => whnf
      refine ⟨k + 1, ⟨by omega, fun j hj hj' => ?_⟩, by show es.length - (k + 1) < es.length - k; omega, ?_⟩
      · rcases Nat.lt_or_ge j k with h | h
        · exact hp j h hj'
        · obtain rfl : j = k := by omega
          exact ⟨hi1 (by omega), hi2 (by omega)⟩
      repeat' (first | exact trivial | exact rfl | refine And.intro ?_ ?_)
  · have h1 := ndec h1
    conv => whnf
    refine ⟨?_, trivial⟩
    show CVal.bool _ = CVal.bool _
    congr 1
    rw [insideB_iff]
    intro e he
    obtain ⟨j, hj, rfl⟩ := List.getElem_of_mem he
    exact hp j (by omega) hj

/-- There is an edge. -/
def hasB (es : List (Int × Int)) (a b : Int) : Bool := decide ((a, b) ∈ es)

theorem ct75 (n : Int) (es : List (Int × Int)) (a b : Int) : Ct Try.prog 75 [rA n es, .one (i64 a), .one (i64 b)] (.c (.bool (hasB es a b))) := by
  refine ct_of tyAll Try.func75 (by decide) rfl ?_
  conv => whnf
  refine ⟨Nat, fun k => k ≤ es.length ∧ ∀ j, (h : j < k) → (h' : j < es.length) → es[j] ≠ (a, b), fun k => ⟨(sk 1 (I a :: (sk 0 (I b :: (sk 0 (.p (.one (.lptr 3 0)) :: (sk 3 (I k :: (sk 25 []))))))))), [(3, [.c (i64 n), .c (prs es)])], []⟩, fun k => es.length - k, 0, ⟨by omega, fun j h => by omega⟩, ?_, fun k hk => ?_⟩
  · repeat' (first | exact trivial | exact rfl | refine And.intro ?_ ?_)
  obtain ⟨hk, hp⟩ := hk
  conv => whnf
  intro hlen
  conv => whnf
  refine acond_split (fun h1 => ?_) (fun h1 => ?_)
  · have h1 := dec h1
    conv => whnf
    have hx : k < es.length := by omega
    refine ⟨es[k], by omega, List.getElem?_eq_getElem hx, ?_⟩
    conv => whnf
    refine ⟨by omega, by omega, ?_⟩
    conv => whnf
    refine acond_split (fun h2 => ?_) (fun h2 => ?_)
    · have h2 := dec h2
      conv => whnf
      have h2' : es[k].1 = a := h2
      refine ⟨es[k], by omega, List.getElem?_eq_getElem hx, ?_⟩
      conv => whnf
      refine ⟨by omega, by omega, ?_⟩
      conv => whnf
      refine acond_split (fun h3 => ?_) (fun h3 => ?_)
      · have h3 := dec h3
        conv => whnf
        have h3' : es[k].2 = b := h3
        refine ⟨?_, trivial⟩
        show CVal.bool _ = CVal.bool _
        congr 1
        exact decide_eq_true (show (a, b) ∈ es by rw [← h2', ← h3']; exact List.getElem_mem hx)
      · have h3 := ndec h3
        conv => whnf
        have h3' : ¬ es[k].2 = b := h3
        refine ⟨_, wi _ (by omega) (by omega), ?_⟩
        conv => whnf
        refine ⟨k + 1, ⟨by omega, fun j hj hj' => ?_⟩, by show es.length - (k + 1) < es.length - k; omega, ?_⟩
        · rcases Nat.lt_or_ge j k with h | h
          · exact hp j h hj'
          · obtain rfl : j = k := by omega
            intro e
            exact h3' (by rw [e])
        repeat' (first | exact trivial | exact rfl | refine And.intro ?_ ?_)
    · have h2 := ndec h2
      conv => whnf
      have h2' : ¬ es[k].1 = a := h2
      refine ⟨_, wi _ (by omega) (by omega), ?_⟩
      conv => whnf
      refine ⟨k + 1, ⟨by omega, fun j hj hj' => ?_⟩, by show es.length - (k + 1) < es.length - k; omega, ?_⟩
      · rcases Nat.lt_or_ge j k with h | h
        · exact hp j h hj'
        · obtain rfl : j = k := by omega
          intro e
          exact h2' (by rw [e])
      repeat' (first | exact trivial | exact rfl | refine And.intro ?_ ?_)
  · have h1 := ndec h1
    conv => whnf
    refine ⟨?_, trivial⟩
    show CVal.bool _ = CVal.bool _
    congr 1
    refine decide_eq_false fun (h : (a, b) ∈ es) => ?_
    obtain ⟨j, hj, e⟩ := List.getElem_of_mem h
    exact hp j (by omega) hj e
end Go.Fx

namespace Go.Fx
open Go.Proofs Gr
set_option maxRecDepth 100000

/-- A graph made, or the error. -/
def makeBad (n : Int) (es : List (Int × Int)) : Bool := decide (n < 0 ∨ 64 < n ∨ insideB n es = false)
def rmakeRv (n : Int) (es : List (Int × Int)) : Rv :=
  if makeBad n es then .tup [.agg [.c (i64 0), .c .nil], .one (.c (i64 2))] else .tup [.agg [.c (i64 n), .row 0 (pairsR (mkL n.toNat es))], .one (.c (i64 0))]

/-- The pairs of one node up to b; of all nodes below a, and of a up to b. -/
def mkR (es : List (Int × Int)) (a b : Nat) : List (Int × Int) := (List.range b).filterMap fun (b : Nat) => if ((a : Int), (b : Int)) ∈ es then some ((a : Int), (b : Int)) else none
def mkP (N : Nat) (es : List (Int × Int)) (a b : Nat) : List (Int × Int) := ((List.range a).flatMap fun (a : Nat) => mkR es a N) ++ mkR es a b
theorem mkR_succ (es : List (Int × Int)) (a b : Nat) : mkR es a (b + 1) = mkR es a b ++ if ((a : Int), (b : Int)) ∈ es then [((a : Int), (b : Int))] else [] := by
  unfold mkR
  rw [List.range_succ, List.filterMap_append]
  congr 1
  by_cases h : ((a : Int), (b : Int)) ∈ es <;> simp [h]
theorem mkP_succ (N : Nat) (es : List (Int × Int)) (a b : Nat) : mkP N es a (b + 1) = mkP N es a b ++ if ((a : Int), (b : Int)) ∈ es then [((a : Int), (b : Int))] else [] := by
  unfold mkP
  rw [mkR_succ, List.append_assoc]
theorem mkP_next (N : Nat) (es : List (Int × Int)) (a : Nat) : mkP N es (a + 1) 0 = mkP N es a N := by
  unfold mkP
  rw [List.range_succ, List.flatMap_append]
  simp [mkR]
theorem mkP_zero (N : Nat) (es : List (Int × Int)) : mkP N es 0 0 = [] := by simp [mkP, mkR]
theorem mkP_all (N : Nat) (es : List (Int × Int)) : mkP N es N 0 = mkL N es := by simp [mkP, mkR, mkL]
theorem mkR_length (es : List (Int × Int)) (a b : Nat) : (mkR es a b).length ≤ b := by
  unfold mkR
  exact Nat.le_trans (List.length_filterMap_le _ _) (by simp)
theorem mkF_length (N : Nat) (es : List (Int × Int)) (a : Nat) : ((List.range a).flatMap fun (a : Nat) => mkR es a N).length ≤ a * N := by
  induction a with
  | zero => simp
  | succ a ih =>
    rw [List.range_succ, List.flatMap_append, List.length_append, Nat.succ_mul]
    have := mkR_length es a N
    simp only [List.flatMap_cons, List.flatMap_nil, List.append_nil]
    omega
theorem mkP_length (N : Nat) (es : List (Int × Int)) (a b : Nat) : (mkP N es a b).length ≤ a * N + b := by
  unfold mkP
  rw [List.length_append]
  have h1 := mkF_length N es a
  have h2 := mkR_length es a b
  omega
theorem mkL_length (N : Nat) (es : List (Int × Int)) : (mkL N es).length ≤ N * N := by
  rw [← mkP_all]
  exact mkP_length N es N 0

theorem ct18 (n : Int) (es : List (Int × Int)) : Ct Try.prog 18 [.one (i64 n), .one (prs es)] (rmakeRv n es) := by
  refine ct_of tyAll Try.func18 (by decide) rfl ?_
  conv => whnf
  refine acond_split (fun h1 => ?_) (fun h1 => ?_)
  · have h1 := dec h1
    conv => whnf
    have e : rmakeRv n es = .tup [.agg [.c (i64 0), .c .nil], .one (.c (i64 2))] := if_pos (decide_eq_true (by omega))
    rw [e]
    conv => whnf
    repeat' (first | exact trivial | exact rfl | refine And.intro ?_ ?_)
  · have h1 := ndec h1
    conv => whnf
    refine acond_split (fun h2 => ?_) (fun h2 => ?_)
    · have h2 := dec h2
      conv => whnf
      have e : rmakeRv n es = .tup [.agg [.c (i64 0), .c .nil], .one (.c (i64 2))] := if_pos (decide_eq_true (by omega))
      rw [e]
      conv => whnf
      repeat' (first | exact trivial | exact rfl | refine And.intro ?_ ?_)
    · have h2 := ndec h2
      conv => whnf
      refine ⟨_, ct74 n es, ?_⟩
      conv => whnf
      refine acond_split (fun h3 => ?_) (fun h3 => ?_)
      · have h3 : insideB n es = false := by simpa using h3
        conv => whnf
        have e : rmakeRv n es = .tup [.agg [.c (i64 0), .c .nil], .one (.c (i64 2))] := if_pos (decide_eq_true (.inr (.inr h3)))
        rw [e]
        conv => whnf
        repeat' (first | exact trivial | exact rfl | refine And.intro ?_ ?_)
      · have h3 : insideB n es = true := by simpa using h3
        have e : rmakeRv n es = .tup [.agg [.c (i64 n), .row 0 (pairsR (mkL n.toNat es))], .one (.c (i64 0))] := if_neg (by unfold makeBad; rw [decide_eq_true_iff]; intro h; rcases h with h | h | h <;> first | omega | (rw [h3] at h; cases h))
        rw [e]
        clear e
        obtain ⟨N, hN⟩ : ∃ N : Nat, n = N := ⟨n.toNat, by omega⟩
        subst hN
        rw [Int.toNat_natCast]
        have hN : N ≤ 64 := by omega
        conv => whnf
        refine ⟨Nat, fun a => a ≤ N, fun a => ⟨(sk 0 (I N :: (sk 0 (.c (prs es) :: (sk 2 (.p (.one (.lptr 4 0)) :: (sk 1 (.p (.one (.lptr 6 0)) :: (sk 0 (.p (.one (.lptr 7 0)) :: (sk 0 (I a :: (sk 42 []))))))))))))), [(4, [.c (i64 0), .c .nil]), (6, [.c (i64 N), .c (prs es)]), (7, [.c (i64 N), .own 100 0])], [(100, (0, pairsR (mkP N es a 0)))]⟩, fun a => N - a, 0, by omega, ?_, fun a ha => ?_⟩
        · repeat' (first | exact trivial | exact rfl | refine And.intro ?_ ?_)
        conv => whnf
        refine acond_split (fun h4 => ?_) (fun h4 => ?_)
        · have h4 := dec h4
          conv => whnf
          refine ⟨Nat, fun b => b ≤ N, fun b => ⟨(sk 0 (I N :: (sk 0 (.c (prs es) :: (sk 2 (.p (.one (.lptr 4 0)) :: (sk 1 (.p (.one (.lptr 6 0)) :: (sk 0 (.p (.one (.lptr 7 0)) :: (sk 0 (I a :: (sk 0 (I b :: (sk 41 []))))))))))))))), [(4, [.c (i64 0), .c .nil]), (6, [.c (i64 N), .c (prs es)]), (7, [.c (i64 N), .own 100 0])], [(100, (0, pairsR (mkP N es a b)))]⟩, fun b => N - b, 0, by omega, ?_, fun b hb => ?_⟩
          · repeat' (first | exact trivial | exact rfl | refine And.intro ?_ ?_)
          conv => whnf
          refine acond_split (fun h5 => ?_) (fun h5 => ?_)
          · have h5 := dec h5
            conv => whnf
            refine ⟨_, ct75 N es a b, ?_⟩
            conv => whnf
            refine acond_split (fun h6 => ?_) (fun h6 => ?_)
            · have h6 : ((a : Int), (b : Int)) ∈ es := of_decide_eq_true h6
              conv => whnf
              refine ⟨Int × Int, eC, [((a : Int), (b : Int))], rfl, by decide, rfl, ?_⟩
              conv => whnf
              have hl := mkP_length N es a b
              have hm : a * N ≤ 64 * 64 := Nat.mul_le_mul (by omega) hN
              refine ⟨[((a : Int), (b : Int))], rfl, by simp; omega, by simp; omega, ?_⟩
              conv => whnf
              refine ⟨_, wi _ (by omega) (by omega), ?_⟩
              conv => whnf
              refine ⟨b + 1, by show b + 1 ≤ N; omega, by show N - (b + 1) < N - b; omega, ?_⟩
              repeat' (first | exact trivial | exact rfl | refine And.intro ?_ ?_)
              show pairsR (mkP N es a b ++ [((a : Int), (b : Int))]) = pairsR (mkP N es a (b + 1))
              rw [mkP_succ, if_pos h6]
            · have h6 : ¬ ((a : Int), (b : Int)) ∈ es := of_decide_eq_false h6
              conv => whnf
              refine ⟨_, wi _ (by omega) (by omega), ?_⟩
              conv => whnf
              refine ⟨b + 1, by show b + 1 ≤ N; omega, by show N - (b + 1) < N - b; omega, ?_⟩
              repeat' (first | exact trivial | exact rfl | refine And.intro ?_ ?_)
              show pairsR (mkP N es a b) = pairsR (mkP N es a (b + 1))
              rw [mkP_succ, if_neg h6, List.append_nil]
          · have h5 := ndec h5
            conv => whnf
            refine ⟨_, wi _ (by omega) (by omega), ?_⟩
            conv => whnf
            have e : b = N := by have : b ≤ N := hb; omega
            subst e
            refine ⟨a + 1, by show a + 1 ≤ b; omega, by show b - (a + 1) < b - a; omega, ?_⟩
            repeat' (first | exact trivial | exact rfl | refine And.intro ?_ ?_)
            show pairsR (mkP b es a b) = pairsR (mkP b es (a + 1) 0)
            rw [mkP_next]
        · have h4 := ndec h4
          conv => whnf
          have e : a = N := by have : a ≤ N := ha; omega
          subst e
          repeat' (first | exact trivial | exact rfl | refine And.intro ?_ ?_)
          show pairsR (mkL a es) = pairsR (mkP a es a 0)
          rw [mkP_all]
end Go.Fx

namespace Go.Fx
open Go.Proofs Gr
set_option maxRecDepth 100000

theorem any_bad (n : Int) (es : List (Int × Int)) : es.any (badE n) = !insideB n es := by
  unfold insideB
  rw [List.not_all_eq_any_not]
  congr 1
  funext e
  simp only [badE, beyondB]
  by_cases h1 : e.1 < 0 <;> by_cases h2 : n ≤ e.1 <;> by_cases h3 : e.2 < 0 <;> by_cases h4 : n ≤ e.2 <;> simp [h1, h2, h3, h4] <;> omega

def makeRv (n : Int) (es : List (Int × Int)) : Rv :=
  if makeBad n es then .tup [.agg [.c (i64 0), .c .nil], .one (.c (i64 2))] else .tup [.agg [.c (i64 n), .row 0 (edgesR (mkL n.toNat es))], .one (.c (i64 0))]

theorem ct16 (n : Int) (es : List (Int × Int)) (hb : es.length * 16 ≤ 140737488355328) : Ct Try.prog 16 [.one (i64 n), .one (edges es)] (makeRv n es) := by
  refine ct_of tyAll Try.func16 (by decide) rfl ?_
  conv => whnf
  refine acond_split (fun h1 => ?_) (fun h1 => ?_)
  · have h1 := dec h1
    conv => whnf
    have e : makeRv n es = .tup [.agg [.c (i64 0), .c .nil], .one (.c (i64 2))] := if_pos (decide_eq_true (by omega))
    rw [e]
    conv => whnf
    repeat' (first | exact trivial | exact rfl | refine And.intro ?_ ?_)
  have h1 := ndec h1
  conv => whnf
  refine acond_split (fun h2 => ?_) (fun h2 => ?_)
  · have h2 := dec h2
    conv => whnf
    have e : makeRv n es = .tup [.agg [.c (i64 0), .c .nil], .one (.c (i64 2))] := if_pos (decide_eq_true (by omega))
    rw [e]
    conv => whnf
    repeat' (first | exact trivial | exact rfl | refine And.intro ?_ ?_)
  have h2 := ndec h2
  conv => whnf
  intro hlen
  conv => whnf
  have bad : es.any (badE n) = true → makeRv n es = .tup [.agg [.c (i64 0), .c .nil], .one (.c (i64 2))] := fun h => if_pos (decide_eq_true (.inr (.inr (by rw [any_bad] at h; simpa using h))))
  refine ⟨Nat, fun k => k ≤ es.length ∧ (es.take k).any (badE n) = false, fun k => ⟨(sk 0 (I n :: (sk 0 (.c (edges es) :: (sk 2 (.p (.one (.lptr 4 0)) :: (sk 11 (.c (edges es) :: (sk 0 (I es.length :: (sk 0 (I k :: (sk 23 []))))))))))))), [(4, [.c (i64 0), .c .nil])], []⟩, fun k => es.length - k, 0, ⟨by omega, by simp⟩, ?_, fun k hk => ?_⟩
  · repeat' (first | exact trivial | exact rfl | refine And.intro ?_ ?_)
  obtain ⟨hk, hp⟩ := hk
  conv => whnf
  refine acond_split (fun h4 => ?_) (fun h4 => ?_)
  · have h4 := dec h4
    conv => whnf
    have hlt : k < es.length := by omega
    refine ⟨es[k], by omega, List.getElem?_eq_getElem hlt, ?_⟩
    conv => whnf
    refine ⟨_, ct70 n es[k].1, ?_⟩
    conv => whnf
    refine acond_split (fun h5 => ?_) (fun h5 => ?_)
    · conv => whnf
      rw [bad (List.any_eq_true.2 ⟨es[k], List.getElem_mem hlt, by rw [badE, beyondB, h5]; rfl⟩)]
      conv => whnf
      repeat' (first | exact trivial | exact rfl | refine And.intro ?_ ?_)
    conv => whnf
    refine ⟨_, ct70 n es[k].2, ?_⟩
    conv => whnf
    refine acond_split (fun h6 => ?_) (fun h6 => ?_)
    · conv => whnf
      rw [bad (List.any_eq_true.2 ⟨es[k], List.getElem_mem hlt, by rw [badE, beyondB, beyondB, h6]; simp⟩)]
      conv => whnf
      repeat' (first | exact trivial | exact rfl | refine And.intro ?_ ?_)
    conv => whnf
    refine ⟨_, wi _ (by omega) (by omega), ?_⟩
    conv => whnf
    refine ⟨k + 1, ⟨by omega, ?_⟩, by show es.length - (k + 1) < es.length - k; omega, ?_⟩
    · rw [List.take_succ_eq_append_getElem hlt, List.any_append, hp]
      simp [badE, beyondB, h5, h6]
    · repeat' (first | exact trivial | exact rfl | refine And.intro ?_ ?_)
  · have h4 := ndec h4
    conv => whnf
    have hk' : k = es.length := by omega
    subst hk'
    rw [List.take_length] at hp
    have hin : insideB n es = true := by rw [any_bad] at hp; simpa using hp
    have hin' := (insideB_iff n es).1 hin
    have e : makeRv n es = .tup [.agg [.c (i64 n), .row 0 (edgesR (mkL n.toNat es))], .one (.c (i64 0))] := if_neg (by unfold makeBad; rw [decide_eq_true_iff]; intro h; rcases h with h | h | h <;> first | omega | (rw [hin] at h; cases h))
    rw [e]
    clear e
    obtain ⟨N, hN⟩ : ∃ N : Nat, n = N := ⟨n.toNat, by omega⟩
    subst hN
    rw [Int.toNat_natCast, ← compact_srt N es hin']
    refine ⟨_, ct17 es hb, ?_⟩
    conv => whnf
    refine .inr (.inr (mut_intro rfl ?_))
    unfold mstep
    conv => whnf
    refine ⟨false, edgesR (srt es), fun _ => rfl, mt71 es (fun _ => .nil) (by omega), ?_⟩
    conv => whnf
    refine .inr (.inr (mut_intro rfl ?_))
    unfold mstep
    conv => whnf
    refine ⟨true, edgesR (cmpct (srt es)), (fun h => by cases h), mt73 (srt es) (by rw [srt_length]; omega), ?_⟩
    conv => whnf
    repeat' (first | exact trivial | exact rfl | refine And.intro ?_ ?_)
end Go.Fx

namespace Go.Fx.Gr
open Go.Fx

theorem ofK_range {n : Nat} {es : Es} (hes : inR n es) {j : Nat} (hj : j < n) : 0 ≤ ofK n es n j ∧ ofK n es n j < (compL n es).length := by
  unfold ofK compL
  rw [List.length_map]
  obtain ⟨r, h1, h2, h3⟩ := rep_of hes j hj
  cases h : (reps n es n).findIdx? fun r => both n es r j with
  | none =>
    rw [List.findIdx?_eq_none_iff] at h
    have := h r (mem_reps.2 ⟨by omega, h2⟩)
    rw [h3] at this; cases this
  | some i =>
    rw [List.findIdx?_eq_some_iff_getElem] at h
    obtain ⟨hi, _⟩ := h
    exact ⟨by simp, by simp; exact hi⟩

def condF (f : Int → Int) (es : Es) : Es := (es.map fun e => (f e.1, f e.2)).filter fun p => !decide (p.1 = p.2)
def ofI (n : Nat) (es : Es) (a : Int) : Int := ofK n es n a.toNat
def condE (n : Nat) (es : Es) : Es := condF (ofI n es) es
def condL (n : Nat) (es : Es) : Es := mkL (compL n es).length (condE n es)

theorem condF_succ (f : Int → Int) (es : Es) (k : Nat) (h : k < es.length) : condF f (es.take (k + 1)) = condF f (es.take k) ++ if f es[k].1 = f es[k].2 then [] else [(f es[k].1, f es[k].2)] := by
  unfold condF
  rw [List.take_succ_eq_append_getElem h, List.map_append, List.filter_append]
  congr 1
  by_cases e : f es[k].1 = f es[k].2 <;> simp [e]
theorem condF_length (f : Int → Int) (es : Es) : (condF f es).length ≤ es.length := by
  unfold condF
  exact Nat.le_trans (List.length_filter_le _ _) (by simp)
theorem condE_in {n : Nat} {es : Es} (hes : inR n es) : ∀ e ∈ condE n es, (0 ≤ e.1 ∧ e.1 < (compL n es).length) ∧ 0 ≤ e.2 ∧ e.2 < (compL n es).length := by
  intro e he
  unfold condE condF at he
  obtain ⟨p, hp, rfl⟩ := List.mem_map.1 (List.mem_filter.1 he).1
  obtain ⟨⟨h1, h2⟩, h3, h4⟩ := hes p hp
  exact ⟨ofK_range hes (by omega), ofK_range hes (by omega)⟩
theorem compL_length (n : Nat) (es : Es) : (compL n es).length ≤ n := by
  unfold compL; rw [List.length_map]; exact reps_le n es n
theorem ofL_length (n : Nat) (es : Es) : (ofL n es).length = n := by simp [ofL]
theorem ofL_get {n : Nat} {es : Es} {a : Int} (h0 : 0 ≤ a) (h1 : a < n) : (ofL n es)[a.toNat]? = some (ofI n es a) := by
  unfold ofL ofI
  have : a.toNat < n := by omega
  simp [this]
end Go.Fx.Gr

namespace Go.Fx
open Go.Proofs Gr
set_option maxRecDepth 100000

theorem flat_graph (m : Int) (es : List (Int × Int)) : FlatRp (.agg [.c (i64 m), .row 0 (edgesR es)]) := by
  intro x hx
  rcases List.mem_cons.1 hx with rfl | hx
  · exact flat_int _ _
  · rcases List.mem_cons.1 hx with rfl | hx
    · intro y i
      show Flat (eC y i)
      match i with
      | 0 => exact flat_int _ _
      | _ + 1 => exact flat_int _ _
    · cases hx
theorem flat_mk (m : Int) (es : List (Int × Int)) : FlatRv (.tup [.agg [.c (i64 m), .row 0 (edgesR es)], .one (.c (i64 0))]) := by
  intro x hx
  rcases List.mem_cons.1 hx with rfl | hx
  · exact flat_graph m es
  · rcases List.mem_cons.1 hx with rfl | hx
    · exact flat_int _ _
    · cases hx

theorem ct90 (n : Nat) (hn : n ≤ 64) (es : Es) (hes : inR n es) (hl : es.length ≤ 1000000) :
    Ct Try.prog 90 [gA n es] (.tup [.agg [.c (i64 (compL n es).length), .row 0 (edgesR (condL n es))], .one (.row 1 (intsR (ofL n es)))]) := by
  refine ct_of tyAll Try.func90 (by decide) rfl ?_
  conv => whnf
  refine ⟨_, ct89 n hn es hes hl, ?_⟩
  conv => whnf
  intro hlen
  conv => whnf
  refine ⟨Nat, fun k => k ≤ es.length, fun k => ⟨(sk 1 (.p (.one (.lptr 1 0)) :: (sk 0 (.p (.one (.lptr 2 0)) :: (sk 1 (W 13 0 :: (sk 0 (W 1013 0 :: (sk 0 (W 100 0 :: (sk 10 (.c (edges es) :: (sk 0 (I es.length :: (sk 0 (I k :: (sk 38 []))))))))))))))))), [(1, [.c (i64 n), .c (edges es)]), (2, [.c (i64 0), .c .nil])],
    [(13, (0, tableR (compL n es))), (1013, (0, intsR (ofL n es))), (100, (0, edgesR (condF (ofI n es) (es.take k))))]⟩, fun k => es.length - k, 0, by omega, ?_, fun k hk => ?_⟩
  · repeat' (first | exact trivial | exact rfl | refine And.intro ?_ ?_)
  have hk : k ≤ es.length := hk
  conv => whnf
  refine acond_split (fun h1 => ?_) (fun h1 => ?_)
  · have h1 := dec h1
    conv => whnf
    have hlt : k < es.length := by omega
    obtain ⟨⟨a0, a1⟩, b0, b1⟩ := hes es[k] (List.getElem_mem hlt)
    refine ⟨es[k], by omega, List.getElem?_eq_getElem hlt, ?_⟩
    conv => whnf
    refine draw_intro tyAll mixed 11 (by kernel_rfl) ?_
    conv => whnf
    have hol := ofL_length n es
    have e1 : es[k].1 < ((ofL n es).length : Int) := by omega
    have e2 : es[k].2 < ((ofL n es).length : Int) := by omega
    refine ⟨a0, e1, ?_⟩
    conv => whnf
    refine ⟨_, ofL_get a0 a1, ?_⟩
    conv => whnf
    refine ⟨b0, e2, ?_⟩
    conv => whnf
    refine ⟨_, ofL_get b0 b1, ?_⟩
    conv => whnf
    refine acond_split (fun h2 => ?_) (fun h2 => ?_)
    · have h2 : ofI n es es[k].1 ≠ ofI n es es[k].2 := of_decide_eq_true h2
      conv => whnf
      refine draw_intro tyAll mixed 13 (by kernel_rfl) ?_
      conv => whnf
      refine ⟨a0, e1, ?_⟩
      conv => whnf
      refine ⟨_, ofL_get a0 a1, ?_⟩
      conv => whnf
      refine ⟨b0, e2, ?_⟩
      conv => whnf
      refine ⟨_, ofL_get b0 b1, ?_⟩
      conv => whnf
      refine ⟨Int × Int, eC, [(ofI n es es[k].1, ofI n es es[k].2)], rfl, by decide, rfl, ?_⟩
      conv => whnf
      have hcl := condF_length (ofI n es) (es.take k)
      have htl : (es.take k).length ≤ es.length := by simp; omega
      refine ⟨[(ofI n es es[k].1, ofI n es es[k].2)], rfl, by simp; omega, by simp; omega, ?_⟩
      conv => whnf
      refine ⟨_, wi _ (by omega) (by omega), ?_⟩
      conv => whnf
      refine ⟨k + 1, by show k + 1 ≤ es.length; omega, by show es.length - (k + 1) < es.length - k; omega, ?_⟩
      repeat' (first | exact trivial | exact rfl | refine And.intro ?_ ?_)
      show edgesR (condF (ofI n es) (es.take k) ++ [(ofI n es es[k].1, ofI n es es[k].2)]) = edgesR (condF (ofI n es) (es.take (k + 1)))
      rw [condF_succ _ _ _ hlt, if_neg h2]
    · have h2 : ofI n es es[k].1 = ofI n es es[k].2 := Decidable.not_not.1 (of_decide_eq_false h2)
      conv => whnf
      refine ⟨_, wi _ (by omega) (by omega), ?_⟩
      conv => whnf
      refine ⟨k + 1, by show k + 1 ≤ es.length; omega, by show es.length - (k + 1) < es.length - k; omega, ?_⟩
      repeat' (first | exact trivial | exact rfl | refine And.intro ?_ ?_)
      show edgesR (condF (ofI n es) (es.take k)) = edgesR (condF (ofI n es) (es.take (k + 1)))
      rw [condF_succ _ _ _ hlt, if_pos h2, List.append_nil]
  · have h1 := ndec h1
    conv => whnf
    have hk' : k = es.length := by omega
    subst hk'
    have hin : insideB (compL n es).length (condE n es) = true := (insideB_iff _ _).2 (condE_in hes)
    have hcl := compL_length n es
    have hce : (condE n es).length ≤ es.length := condF_length _ _
    have e : makeRv (compL n es).length (condE n es) = .tup [.agg [.c (i64 (compL n es).length), .row 0 (edgesR (condL n es))], .one (.c (i64 0))] := if_neg (by
      unfold makeBad; rw [decide_eq_true_iff]; intro h; rcases h with h | h | h <;> first | omega | (rw [hin] at h; cases h))
    have hm := ct16 (compL n es).length (condE n es) (by omega)
    rw [e] at hm
    rw [List.take_length]
    intro hlen
    conv => whnf
    refine .inl ?_
    conv => whnf
    refine ⟨_, hm, .inl (flat_mk _ _), ?_⟩
    conv => whnf
    trace_state
    repeat' (first | exact trivial | exact rfl | refine And.intro ?_ ?_)
end Go.Fx

namespace Go.Fx
open Go.Proofs Gr
set_option maxRecDepth 100000

/-- A right graph. -/
theorem check_ok {n : Int} {es : Es} (h : checkG n es = 0) : ∃ N : Nat, n = N ∧ N ≤ 64 ∧ inR N es ∧ es.length ≤ 4096 ∧ sortedB es = true := by
  unfold checkG at h
  split at h
  · cases h
  rename_i h1
  split at h
  · cases h
  rename_i h2
  split at h
  · cases h
  rename_i h3
  split at h
  · rename_i h4
    obtain ⟨N, hN⟩ : ∃ N : Nat, n = N := ⟨n.toNat, by omega⟩
    subst hN
    have h5 : N ≤ 64 := by omega
    have h6 : N * N ≤ 64 * 64 := Nat.mul_le_mul h5 h5
    have h7 : (es.length : Int) ≤ (N : Int) * N := by omega
    rw [← Int.natCast_mul] at h7
    refine ⟨N, rfl, h5, ?_, by omega, h4⟩
    rw [any_bad] at h3
    have h8 : insideB N es = true := by simpa using h3
    exact (insideB_iff _ _).1 h8
  · cases h

def idxF {α : Type} (p : α → Bool) (es : List α) : Int := match es.findIdx? p with
  | some i => i
  | none => -1
theorem idxF_nonneg {α : Type} (p : α → Bool) (es : List α) : decide (0 ≤ idxF p es) = es.any p := by
  unfold idxF
  cases h : es.findIdx? p with
  | none =>
    rw [List.findIdx?_eq_none_iff] at h
    have : es.any p = false := by rw [← Bool.not_eq_true, List.any_eq_true]; rintro ⟨x, hx, hp⟩; rw [h x hx] at hp; cases hp
    rw [this]; rfl
  | some i =>
    rw [List.findIdx?_eq_some_iff_getElem] at h
    obtain ⟨hi, hp, _⟩ := h
    have : es.any p = true := List.any_eq_true.2 ⟨es[i], List.getElem_mem hi, hp⟩
    rw [this]
    exact decide_eq_true (by simp)
theorem idxF_at {α : Type} {p : α → Bool} {es : List α} {k : Nat} (hk : k < es.length) (h : p es[k] = true) (hn : ∀ j, (hj : j < k) → p (es[j]'(by omega)) = false) : idxF p es = k := by
  unfold idxF
  have : es.findIdx? p = some k := List.findIdx?_eq_some_iff_getElem.2 ⟨hk, h, fun j hj => by rw [hn j hj]; simp⟩
  rw [this]
theorem idxF_none {α : Type} {p : α → Bool} {es : List α} (hn : ∀ j, (hj : j < es.length) → p es[j] = false) : idxF p es = -1 := by
  unfold idxF
  have : es.findIdx? p = none := List.findIdx?_eq_none_iff.2 fun x hx => by
    obtain ⟨j, hj, rfl⟩ := List.getElem_of_mem hx
    exact hn j hj
  rw [this]

theorem ct99 (es : List (Int × Int)) (g n : Nat) (caps : Nat → CVal) (p : Int × Int → Bool) (h : ∀ e ∈ es, Ct Try.prog g ([eA e] ++ capsL caps 0 n) (.c (.bool (p e)))) :
    Ct Try.prog 99 [.one (edges es), .one (.fn g n caps)] (.c (i64 (idxF p es))) := by
  refine ct_of tyAll Try.func99 (by decide) rfl ?_
  conv => whnf
  intro hlen
  conv => whnf
  refine ⟨Nat, fun k => k ≤ es.length ∧ ∀ j, (hj : j < k) → (hj' : j < es.length) → p es[j] = false, fun k => ⟨(sk 0 (.c (edges es) :: (sk 0 (.c (.fn g n caps) :: (sk 4 (.c (edges es) :: (sk 0 (I es.length :: (sk 0 (I k :: (sk 10 []))))))))))), [], []⟩, fun k => es.length - k, 0, ⟨by omega, fun j hj => by omega⟩, ?_, fun k hk => ?_⟩
  · repeat' (first | exact trivial | exact rfl | refine And.intro ?_ ?_)
  obtain ⟨hk, hp⟩ := hk
  conv => whnf
  refine acond_split (fun h1 => ?_) (fun h1 => ?_)
  · have h1 := dec h1
    conv => whnf
    have hlt : k < es.length := by omega
    refine ⟨es[k], by omega, List.getElem?_eq_getElem hlt, ?_⟩
    conv => whnf
    refine ⟨_, h es[k] (List.getElem_mem hlt), ?_⟩
    conv => whnf
    refine acond_split (fun h2 => ?_) (fun h2 => ?_)
    · conv => whnf
      refine ⟨?_, trivial⟩
      exact congrArg i64 (idxF_at hlt h2 fun j hj => hp j hj (by omega))
    · conv => whnf
      refine ⟨_, wi _ (by omega) (by omega), ?_⟩
      conv => whnf
      refine ⟨k + 1, ⟨by omega, fun j hj hj' => ?_⟩, by show es.length - (k + 1) < es.length - k; omega, ?_⟩
      · rcases Nat.lt_or_ge j k with h | h
        · exact hp j h hj'
        · obtain rfl : j = k := by omega
          exact h2
      repeat' (first | exact trivial | exact rfl | refine And.intro ?_ ?_)
  · have h1 := ndec h1
    conv => whnf
    refine ⟨?_, trivial⟩
    exact congrArg i64 (idxF_none fun j hj => hp j (by omega) hj)

theorem ct58 (es : List (Int × Int)) (g n : Nat) (caps : Nat → CVal) (p : Int × Int → Bool) (h : ∀ e ∈ es, Ct Try.prog g ([eA e] ++ capsL caps 0 n) (.c (.bool (p e)))) :
    Ct Try.prog 58 [.one (edges es), .one (.fn g n caps)] (.c (.bool (es.any p))) := by
  refine ct_of tyAll Try.func58 (by decide) rfl ?_
  conv => whnf
  refine ⟨_, ct99 es g n caps p h, ?_⟩
  conv => whnf
  refine ⟨?_, trivial⟩
  show CVal.bool _ = CVal.bool _
  congr 1
  exact (idxF_nonneg p es).symm

theorem ct91 (e : Int × Int) (k : Int) : Ct Try.prog 91 [eA e, .one (.ref 1 fun i => [i64 k].getD i .nil)] (.c (.bool (decide (e.1 = k)))) := by
  refine ct_of tyAll Try.func91 (by decide) rfl ?_
  conv => whnf
  repeat' (first | exact trivial | exact rfl | refine And.intro ?_ ?_)

def compRv (n : Int) (es : Es) : Rv :=
  if checkG n es = 0 then .tup [.one (.row 0 (tableR (compL n.toNat es))), .one (.c (i64 0))] else .tup [.one (.c .nil), .one (.c (i64 (checkG n es)))]

theorem ct45 (n : Int) (es : Es) : Ct Try.prog 45 [gA n es] (compRv n es) := by
  refine ct_of tyAll Try.func45 (by decide) rfl ?_
  conv => whnf
  refine ⟨_, ct21 n es, ?_⟩
  conv => whnf
  refine acond_split (fun h1 => ?_) (fun h1 => ?_)
  · have h1 := dec h1
    conv => whnf
    rw [compRv, if_neg h1]
    conv => whnf
    repeat' (first | exact trivial | exact rfl | refine And.intro ?_ ?_)
  · have h1 : checkG n es = 0 := Decidable.not_not.1 (of_decide_eq_false h1)
    rw [compRv, if_pos h1, h1]
    obtain ⟨N, rfl, hN, hes, hl, _⟩ := check_ok h1
    rw [Int.toNat_natCast]
    conv => whnf
    refine ⟨_, ct89 N hN es hes (by omega), ?_⟩
    conv => whnf
    repeat' (first | exact trivial | exact rfl | refine And.intro ?_ ?_)

/-- The components that no edge leaves. -/
def sinksP (n : Nat) (es : Es) (m : Nat) : List (List Int) := ((List.range m).filter fun (k : Nat) => !(condL n es).any fun e => decide (e.1 = (k : Int))).map fun k => (compL n es).getD k []
def sinksL (n : Nat) (es : Es) : List (List Int) := sinksP n es (compL n es).length
theorem sinksP_succ (n : Nat) (es : Es) (m : Nat) (h : m < (compL n es).length) : sinksP n es (m + 1) = sinksP n es m ++ if ((condL n es).any fun e => decide (e.1 = (m : Int))) = true then [] else [(compL n es)[m]] := by
  unfold sinksP
  rw [List.range_succ, List.filter_append, List.map_append]
  congr 1
  by_cases e : ((condL n es).any fun e => decide (e.1 = (m : Int))) = true
  · rw [if_pos e]
    simp only [List.filter_cons, e]
    rfl
  · rw [if_neg e]
    have e' : ((condL n es).any fun e => decide (e.1 = (m : Int))) = false := Bool.eq_false_iff.2 e
    simp only [e', List.filter_cons, List.filter_nil]
    simp [h]
theorem sinksP_length (n : Nat) (es : Es) (m : Nat) : (sinksP n es m).length ≤ m := by
  unfold sinksP
  rw [List.length_map]
  exact Nat.le_trans (List.length_filter_le _ _) (by simp)

def sinksRv (n : Int) (es : Es) : Rv :=
  if checkG n es = 0 then .tup [.one (.row 0 (tableR (sinksL n.toNat es))), .one (.c (i64 0))] else .tup [.one (.c .nil), .one (.c (i64 (checkG n es)))]

theorem ct39 (n : Int) (es : Es) : Ct Try.prog 39 [gA n es] (sinksRv n es) := by
  refine ct_of tyAll Try.func39 (by decide) rfl ?_
  conv => whnf
  refine ⟨_, ct21 n es, ?_⟩
  conv => whnf
  refine acond_split (fun h1 => ?_) (fun h1 => ?_)
  · have h1 := dec h1
    conv => whnf
    rw [sinksRv, if_neg h1]
    conv => whnf
    repeat' (first | exact trivial | exact rfl | refine And.intro ?_ ?_)
  · have h1 : checkG n es = 0 := Decidable.not_not.1 (of_decide_eq_false h1)
    rw [sinksRv, if_pos h1, h1]
    obtain ⟨N, rfl, hN, hes, hl, _⟩ := check_ok h1
    rw [Int.toNat_natCast]
    conv => whnf
    refine ⟨_, ct89 N hN es hes (by omega), ?_⟩
    conv => whnf
    refine ⟨_, ct90 N hN es hes (by omega), ?_⟩
    conv => whnf
    intro hlen
    conv => whnf
    have hcl := compL_length N es
    refine ⟨Nat, fun k => k ≤ (compL N es).length, fun k => ⟨(sk 5 (W 18 0 :: (sk 1 (.p (.one (.lptr 7 0)) :: (sk 1 (W 100 0 :: (sk 17 (I (compL N es).length :: (sk 0 (I k :: (sk 16 []))))))))))), [(7, [.c (i64 (compL N es).length), .own 23 0])],
      [(18, (0, tableR (compL N es))), (23, (0, edgesR (condL N es))), (100, (0, tableR (sinksP N es k)))]⟩, fun k => (compL N es).length - k, 0, by omega, ?_, fun k hk => ?_⟩
    · repeat' (first | exact trivial | exact rfl | refine And.intro ?_ ?_)
    have hk : k ≤ (compL N es).length := hk
    conv => whnf
    refine acond_split (fun h2 => ?_) (fun h2 => ?_)
    · have h2 := dec h2
      conv => whnf
      have hlt : k < (compL N es).length := by omega
      refine .inl ?_
      conv => whnf
      refine ⟨_, ct58 (condL N es) 91 1 (fun i => [CVal.ref 1 fun i => [i64 k].getD i .nil].getD i .nil) (fun e => decide (e.1 = (k : Int))) (fun e _ => ct91 e k), .inl (flat_bool _), ?_⟩
      conv => whnf
      have hs := sinksP_succ N es k hlt
      refine acond_split (fun h3 => ?_) (fun h3 => ?_)
      · have h3 : ((condL N es).any fun e => decide (e.1 = (k : Int))) = false := by simpa using h3
        rw [if_neg (by rw [h3]; simp)] at hs
        conv => whnf
        refine ⟨by omega, (by show (k : Int) < (compL N es).length; omega), ?_⟩
        conv => whnf
        refine ⟨_, List.getElem?_eq_getElem hlt, ?_⟩
        conv => whnf
        refine ⟨List Int, fun r _ => ints r, [(compL N es)[k]], rfl, by decide, rfl, ?_⟩
        conv => whnf
        have hsl := sinksP_length N es k
        refine ⟨[(compL N es)[k]], rfl, by simp; omega, by simp; omega, ?_⟩
        conv => whnf
        refine ⟨_, wi _ (by omega) (by omega), ?_⟩
        conv => whnf
        refine ⟨k + 1, by show k + 1 ≤ (compL N es).length; omega, by show (compL N es).length - (k + 1) < (compL N es).length - k; omega, ?_⟩
        repeat' (first | exact trivial | exact rfl | refine And.intro ?_ ?_)
        show tableR (sinksP N es k ++ [(compL N es)[k]]) = tableR (sinksP N es (k + 1))
        rw [hs]
      · have h3 : ((condL N es).any fun e => decide (e.1 = (k : Int))) = true := by simpa using h3
        rw [if_pos h3, List.append_nil] at hs
        conv => whnf
        refine ⟨_, wi _ (by omega) (by omega), ?_⟩
        conv => whnf
        refine ⟨k + 1, by show k + 1 ≤ (compL N es).length; omega, by show (compL N es).length - (k + 1) < (compL N es).length - k; omega, ?_⟩
        repeat' (first | exact trivial | exact rfl | refine And.intro ?_ ?_)
        show tableR (sinksP N es k) = tableR (sinksP N es (k + 1))
        rw [hs]
    · have h2 := ndec h2
      conv => whnf
      have hk' : k = (compL N es).length := by omega
      subst hk'
      repeat' (first | exact trivial | exact rfl | refine And.intro ?_ ?_)
end Go.Fx
