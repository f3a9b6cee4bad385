/- The types of the program. Shapes of the program's values; small laws. Plain laws: walks and distances in a graph. graph.next, walked by hand: it appends to rows inside a row of its own. next, as a contract. Plain laws: components. -/
import Derived.Test.YtoajmkplaognnaaK3
import Derived.Test.YtoajmkplaognnaaProg
import Derived.Laws.BitsLemmas
import Derived.Laws.MakeOwn
import Derived.Deep.RegionLaw
import Derived.Deep.AppendLies
import Derived.Deep.LoopGhost
import Derived.Deep.Draws
import Derived.WalkKit
import Derived.OwnWalk
import Derived.Below
set_option linter.unusedVariables false
set_option linter.unusedSimpArgs false
set_option linter.unusedSectionVars false
namespace Go.Fx
open Go.Proofs
def tabOk (P : Program) : List (Nat × Ty) → Prop
  | [] => True
  | (t, x) :: l => TyOk P t x ∧ tabOk P l
theorem tyAll_tab {P : Program} {tab : List (Nat × Ty)} (h : tabOk P tab) : TyAll P (fun t => match lget tab t with
    | some x => x
    | none => .no) := by
  intro t
  show TyOk P t (match lget tab t with | some x => x | none => .no)
  induction tab with
  | nil => exact .inl rfl
  | cons p l ih =>
    obtain ⟨k, x⟩ := p
    rw [lget_cons]
    by_cases e : k = t
    · subst e; simpa using h.1
    · simpa [e] using ih h.2
section
variable {P : Program} {t : TypeId}
theorem int_ok {k : IntKind} (h : (P.info? t).map (fun i => (i.zero, i.size)) = some (some (.int k 0), 1)) (h2 : P.underlying t = some (.int k)) : TyOk P t (.int k) := .inr ⟨h, h2⟩
theorem bool_ok (h : (P.info? t).map (fun i => (i.zero, i.size)) = some (some (.bool false), 1)) (h2 : P.underlying t = some .bool) : TyOk P t .bool := .inr ⟨h, h2⟩
theorem str_ok (h : (P.info? t).map (fun i => (i.zero, i.size)) = some (some (.string ⟨#[]⟩), 1)) (h2 : P.underlying t = some .string) : TyOk P t .str := .inr ⟨h, h2⟩
theorem sl_ok {e k b : Nat} {z : List Value} (h : (P.info? t).map (fun i => (i.zero, i.size)) = some (some (.slice none 0 0), 1)) (h2 : P.underlying t = some (.slice e))
    (h3 : (P.info? e).map (fun i => (i.zero.map Value.cells, i.size, i.bytes)) = some (some z.toArray, k, b)) (h4 : z.length = k) : TyOk P t (.sl e k b z) := .inr ⟨h, h2, h3, h4⟩
theorem st_ok {fs : List (Nat × Nat)} {z : List Value} (h : (P.info? t).map (fun i => (i.zero, i.size)) = some (some (.agg z.toArray), z.length))
    (h2 : (match P.underlying t with | some (.struct fl) => some (fl.toList.map fun f => (f.type, f.offset)) | _ => none) = some fs)
    (h3 : (fs.all fun f => ((P.info? f.1).map (·.size)).any (· != 0)) = true) : TyOk P t (.st fs z) := by
  refine .inr ⟨h, ?_⟩
  split at h2
  · rename_i fl hfl
    exact ⟨fl, hfl, by simpa using h2, h3⟩
  · cases h2
theorem ar_ok {n e ek : Nat} {z : List Value} (h : (P.info? t).map (fun i => (i.zero, i.size)) = some (some (.agg z.toArray), z.length)) (h2 : P.underlying t = some (.array n e)) (h3 : (P.info? e).map (·.size) = some ek) : TyOk P t (.ar n e ek z) := .inr ⟨h, h2, h3⟩
end
theorem ty2 : TyOk Try.prog 2 (.int .i64) := int_ok (by kernel_rfl) (by kernel_rfl)
theorem ty3 : TyOk Try.prog 3 (.int .i64) := int_ok (by kernel_rfl) (by kernel_rfl)
theorem ty4 : TyOk Try.prog 4 (.bool) := bool_ok (by kernel_rfl) (by kernel_rfl)
theorem ty5 : TyOk Try.prog 5 (.int .u8) := int_ok (by kernel_rfl) (by kernel_rfl)
theorem ty22 : TyOk Try.prog 22 (.sl 32 2 16 [.int .i64 0, .int .i64 0]) := sl_ok (by kernel_rfl) (by kernel_rfl) (by kernel_rfl) rfl
theorem ty26 : TyOk Try.prog 26 (.st [(3, 0), (22, 1)] [.int .i64 0, .slice none 0 0]) := st_ok (by kernel_rfl) (by kernel_rfl) (by kernel_rfl)
theorem ty27 : TyOk Try.prog 27 (.int .i64) := int_ok (by kernel_rfl) (by kernel_rfl)
theorem ty32 : TyOk Try.prog 32 (.st [(3, 0), (3, 1)] [.int .i64 0, .int .i64 0]) := st_ok (by kernel_rfl) (by kernel_rfl) (by kernel_rfl)
theorem ty33 : TyOk Try.prog 33 (.sl 85 2 16 [.int .i64 0, .int .i64 0]) := sl_ok (by kernel_rfl) (by kernel_rfl) (by kernel_rfl) rfl
theorem ty35 : TyOk Try.prog 35 (.st [(3, 0), (33, 1)] [.int .i64 0, .slice none 0 0]) := st_ok (by kernel_rfl) (by kernel_rfl) (by kernel_rfl)
theorem ty42 : TyOk Try.prog 42 (.sl 3 1 8 [.int .i64 0]) := sl_ok (by kernel_rfl) (by kernel_rfl) (by kernel_rfl) rfl
theorem ty58 : TyOk Try.prog 58 (.sl 42 1 24 [.slice none 0 0]) := sl_ok (by kernel_rfl) (by kernel_rfl) (by kernel_rfl) rfl
theorem ty85 : TyOk Try.prog 85 (.ar 2 3 1 [.int .i64 0, .int .i64 0]) := ar_ok (by kernel_rfl) (by kernel_rfl) (by kernel_rfl)
theorem ty101 : TyOk Try.prog 101 (.sl 4 1 1 [.bool false]) := sl_ok (by kernel_rfl) (by kernel_rfl) (by kernel_rfl) rfl
theorem ty119 : TyOk Try.prog 119 (.sl 101 1 24 [.slice none 0 0]) := sl_ok (by kernel_rfl) (by kernel_rfl) (by kernel_rfl) rfl
theorem ty124 : TyOk Try.prog 124 (.int .u64) := int_ok (by kernel_rfl) (by kernel_rfl)
theorem ty128 : TyOk Try.prog 128 (.sl 22 1 24 [.slice none 0 0]) := sl_ok (by kernel_rfl) (by kernel_rfl) (by kernel_rfl) rfl
theorem ty141 : TyOk Try.prog 141 (.int .u64) := int_ok (by kernel_rfl) (by kernel_rfl)
def tab : List (Nat × Ty) := [(2, .int .i64), (3, .int .i64), (4, .bool), (5, .int .u8), (22, .sl 32 2 16 [.int .i64 0, .int .i64 0]), (26, .st [(3, 0), (22, 1)] [.int .i64 0, .slice none 0 0]), (27, .int .i64), (32, .st [(3, 0), (3, 1)] [.int .i64 0, .int .i64 0]), (33, .sl 85 2 16 [.int .i64 0, .int .i64 0]), (35, .st [(3, 0), (33, 1)] [.int .i64 0, .slice none 0 0]), (42, .sl 3 1 8 [.int .i64 0]), (58, .sl 42 1 24 [.slice none 0 0]), (85, .ar 2 3 1 [.int .i64 0, .int .i64 0]), (101, .sl 4 1 1 [.bool false]), (119, .sl 101 1 24 [.slice none 0 0]), (124, .int .u64), (128, .sl 22 1 24 [.slice none 0 0]), (141, .int .u64)]
def T (t : TypeId) : Ty := match lget tab t with
  | some x => x
  | none => .no
theorem tyAll : TyAll Try.prog T := by
  refine tyAll_tab ?_
  unfold tab
  exact ⟨ty2, ty3, ty4, ty5, ty22, ty26, ty27, ty32, ty33, ty35, ty42, ty58, ty85, ty101, ty119, ty124, ty128, ty141, trivial⟩
end Go.Fx

namespace Go.Fx
open Go.Proofs
theorem wi (n : Int) (h1 : -9223372036854775808 ≤ n) (h2 : n ≤ 9223372036854775807) : IntKind.i64.wrap n = n := by
  rw [IntKind.wrap_i64]; omega
theorem dec {p : Prop} [Decidable p] (h : decide p = true) : p := of_decide_eq_true h
theorem ndec {p : Prop} [Decidable p] (h : decide p = false) : ¬ p := of_decide_eq_false h
abbrev ints (xs : List Int) : CVal := .sl Int 1 (fun n _ => i64 n) xs
abbrev eC (e : Int × Int) : Nat → CVal
  | 0 => i64 e.1
  | _ => i64 e.2
abbrev edges (es : List (Int × Int)) : CVal := .sl (Int × Int) 2 eC es
abbrev table (xs : List (List Int)) : CVal := .sl (List Int) 1 (fun r _ => ints r) xs
abbrev bools (xs : List Bool) : CVal := .sl Bool 1 (fun b _ => .bool b) xs
abbrev intsR (xs : List Int) : Row := ⟨Int, 1, fun n _ => i64 n, 3, xs⟩
abbrev edgesR (xs : List (Int × Int)) : Row := ⟨Int × Int, 2, eC, 32, xs⟩
abbrev pairsR (xs : List (Int × Int)) : Row := ⟨Int × Int, 2, eC, 85, xs⟩
abbrev tableR (xs : List (List Int)) : Row := ⟨List Int, 1, fun r _ => ints r, 42, xs⟩
abbrev boolsR (xs : List Bool) : Row := ⟨Bool, 1, fun b _ => .bool b, 4, xs⟩
abbrev X : AVal := .any
abbrev I (n : Int) : AVal := .c (i64 n)
abbrev W (r v : Nat) : AVal := .p (.one (.own r v))
end Go.Fx

namespace Go.Fx
open Go.Proofs
set_option maxRecDepth 100000
theorem ct70 (n i : Int) : Ct Try.prog 70 [.one (i64 n), .one (i64 i)] (.c (.bool (decide (i < 0) || decide (n ≤ i)))) := by
  refine ct_of tyAll Try.func70 (by decide) rfl ?_
  conv => whnf
  refine acond_split (fun h1 => ?_) (fun h1 => ?_)
  · conv => whnf
    refine ⟨?_, trivial⟩
    show CVal.bool _ = CVal.bool _
    simp [h1]
  · conv => whnf
    refine ⟨?_, trivial⟩
    show CVal.bool _ = CVal.bool _
    simp [h1]

def idx (x : Int) : List Int → Nat → Int
  | [], _ => -1
  | y :: l, k => if x = y then k else idx x l (k + 1)
theorem ct60 (xs : List Int) (x : Int) : Ct Try.prog 60 [.one (ints xs), .one (i64 x)] (.c (i64 (idx x xs 0))) := by
  refine ct_of tyAll Try.func60 (by decide) rfl ?_
  conv => whnf
  intro hlen
  conv => whnf
  refine ⟨Nat, fun k => k ≤ xs.length ∧ idx x (xs.drop k) k = idx x xs 0, fun k => ⟨[.c (ints xs), I x, X, X, X, X, X, I xs.length, I k, X, X, X, X, X, X, X, X, X, X], [], []⟩, fun k => xs.length - k, 0, ⟨by omega, rfl⟩, ?_, fun k hk => ?_⟩
  · repeat' (first | exact trivial | exact rfl | refine And.intro ?_ ?_)
  obtain ⟨hk, hidx⟩ := hk
  conv => whnf
  refine acond_split (fun h1 => ?_) (fun h1 => ?_)
  · have h1 := dec h1
    have hlt : k < xs.length := by omega
    rw [List.drop_eq_getElem_cons hlt, idx] at hidx
    conv => whnf
    refine ⟨xs[k], by omega, List.getElem?_eq_getElem hlt, ?_⟩
    conv => whnf
    refine acond_split (fun h2 => ?_) (fun h2 => ?_)
    · have h2 := dec h2
      conv => whnf
      refine ⟨?_, trivial⟩
      rw [if_pos h2] at hidx
      exact congrArg i64 hidx.symm
    · have h2 := ndec h2
      rw [if_neg h2] at hidx
      conv => whnf
      refine ⟨_, wi _ (by omega) (by omega), ?_⟩
      conv => whnf
      refine ⟨k + 1, ⟨by omega, hidx⟩, by show xs.length - (k + 1) < xs.length - k; omega, ?_⟩
      repeat' (first | exact trivial | exact rfl | refine And.intro ?_ ?_)
  · have h1 := ndec h1
    conv => whnf
    refine ⟨?_, trivial⟩
    rw [List.drop_eq_nil_of_le (by omega)] at hidx
    exact congrArg i64 hidx.symm

theorem ct19 (es : List (Int × Int)) (hb : es.length * 16 ≤ 140737488355328) : Ct Try.prog 19 [.one (edges es)] (.row (pairsR es)) := by
  refine ct_of tyAll Try.func19 (by decide) rfl ?_
  conv => whnf
  intro hlen
  conv => whnf
  refine ⟨Nat, fun k => k ≤ es.length, fun k => ⟨[X, X, X, W 100 0, X, X, .c (edges es), I es.length, I k, X, X, X, X, X, X, X, X, X, X, X, X, X], [], [(100, (0, pairsR (es.take k)))]⟩, fun k => es.length - k, 0, by omega, ?_, fun k hk => ?_⟩
  · repeat' (first | exact trivial | exact rfl | refine And.intro ?_ ?_)
  conv => whnf
  refine acond_split (fun h1 => ?_) (fun h1 => ?_)
  · have h1 := dec h1
    have hlt : k < es.length := by omega
    conv => whnf
    refine ⟨es[k], by omega, List.getElem?_eq_getElem hlt, ?_⟩
    conv => whnf
    refine ⟨Int × Int, eC, [es[k]], rfl, by decide, rfl, ?_⟩
    conv => whnf
    refine ⟨[es[k]], rfl, by simp; omega, by simp; omega, ?_⟩
    conv => whnf
    refine ⟨_, wi _ (by omega) (by omega), ?_⟩
    conv => whnf
    refine ⟨k + 1, by show k + 1 ≤ es.length; omega, by show es.length - (k + 1) < es.length - k; omega, ?_⟩
    repeat' (first | exact trivial | exact rfl | refine And.intro ?_ ?_)
    show pairsR (es.take k ++ [es[k]]) = pairsR (es.take (k + 1))
    rw [List.take_succ_eq_append_getElem hlt]
  · have h1 := ndec h1
    conv => whnf
    refine ⟨?_, trivial⟩
    show pairsR es = pairsR (es.take k)
    rw [List.take_of_length_le (by omega)]
end Go.Fx

namespace Go.Fx
open Go.Proofs
set_option maxRecDepth 100000

theorem mixed : Try.prog.follows .mixedOrders = true := by kernel_rfl

theorem ct17 (es : List (Int × Int)) (hb : es.length * 16 ≤ 140737488355328) : Ct Try.prog 17 [.one (edges es)] (.row (edgesR es)) := by
  refine ct_of tyAll Try.func17 (by decide) rfl ?_
  conv => whnf
  intro t ht
  conv => whnf
  refine acond_split (fun h1 => ?_) (fun h1 => ?_)
  · have he : es = [] := by
      cases es with
      | nil => rfl
      | cons e es => rw [ht (by simp)] at h1; cases h1
    conv => whnf
    refine ⟨⟨rfl, he, rfl⟩, trivial⟩
  · conv => whnf
    refine ⟨Int × Int, eC, [], rfl, by decide, rfl, ?_⟩
    conv => whnf
    refine ⟨es, rfl, by simp; omega, by simp; omega, ?_⟩
    conv => whnf
    refine ⟨?_, trivial⟩
    show edgesR es = edgesR ([] ++ es)
    rfl

theorem ct55 (xs : List Int) (hb : xs.length * 8 ≤ 140737488355328) : Ct Try.prog 55 [.one (ints xs)] (.row (intsR xs)) := by
  refine ct_of tyAll Try.func55 (by decide) rfl ?_
  conv => whnf
  intro t ht
  conv => whnf
  refine acond_split (fun h1 => ?_) (fun h1 => ?_)
  · have he : xs = [] := by
      cases xs with
      | nil => rfl
      | cons e es => rw [ht (by simp)] at h1; cases h1
    conv => whnf
    refine ⟨⟨rfl, he, rfl⟩, trivial⟩
  · conv => whnf
    refine ⟨Int, fun n _ => i64 n, [], rfl, by decide, rfl, ?_⟩
    conv => whnf
    refine ⟨xs, rfl, by simp; omega, by simp; omega, ?_⟩
    conv => whnf
    exact ⟨rfl, trivial⟩

theorem ct29 (xs ys : List Int) : Ct Try.prog 29 [.one (ints xs), .one (ints ys)] (.c (.bool (decide (xs = ys)))) := by
  refine ct_of tyAll Try.func29 (by decide) rfl ?_
  conv => whnf
  intro h1 h2
  conv => whnf
  refine acond_split (fun h3 => ?_) (fun h3 => ?_)
  · have h3 := dec h3
    have hne : xs ≠ ys := fun e => h3 (by rw [e])
    conv => whnf
    refine ⟨?_, trivial⟩
    show CVal.bool _ = CVal.bool _
    simp [hne]
  have h3 := ndec h3
  have hl : xs.length = ys.length := by omega
  conv => whnf
  intro _
  conv => whnf
  refine ⟨Nat, fun k => k ≤ xs.length ∧ xs.take k = ys.take k, fun k => ⟨[.c (ints xs), .c (ints ys), X, X, X, X, X, X, X, X, X, X, I xs.length, I k, X, X, X, X, X, X, X, X, X, X, X, X], [], []⟩, fun k => xs.length - k, 0, ⟨by omega, by simp⟩, ?_, fun k hk => ?_⟩
  · repeat' (first | exact trivial | exact rfl | refine And.intro ?_ ?_)
  obtain ⟨hk, hp⟩ := hk
  conv => whnf
  refine acond_split (fun h4 => ?_) (fun h4 => ?_)
  · have h4 := dec h4
    have hlt : k < xs.length := by omega
    have hlt2 : k < ys.length := by omega
    conv => whnf
    refine draw_intro tyAll mixed 9 (by kernel_rfl) ?_
    conv => whnf
    refine ⟨xs[k], by omega, List.getElem?_eq_getElem hlt, ?_⟩
    conv => whnf
    refine ⟨ys[k], by omega, List.getElem?_eq_getElem hlt2, ?_⟩
    conv => whnf
    refine acond_split (fun h5 => ?_) (fun h5 => ?_)
    · have h5 := dec h5
      have hne : xs ≠ ys := fun e => h5 (by subst e; rfl)
      conv => whnf
      refine ⟨?_, trivial⟩
      show CVal.bool _ = CVal.bool _
      simp [hne]
    · have h5 := ndec h5
      conv => whnf
      refine ⟨_, wi _ (by omega) (by omega), ?_⟩
      conv => whnf
      refine ⟨k + 1, ⟨by omega, ?_⟩, by show xs.length - (k + 1) < xs.length - k; omega, ?_⟩
      · rw [List.take_succ_eq_append_getElem hlt, List.take_succ_eq_append_getElem hlt2, hp, Decidable.not_not.1 h5]
      · repeat' (first | exact trivial | exact rfl | refine And.intro ?_ ?_)
  · have h4 := ndec h4
    conv => whnf
    refine ⟨?_, trivial⟩
    have e : xs = ys := by rwa [List.take_of_length_le (by omega), List.take_of_length_le (by omega)] at hp
    show CVal.bool _ = CVal.bool _
    simp [e]
end Go.Fx

namespace Go.Fx
open Go.Proofs
set_option maxRecDepth 100000

def icmp (x y : Int) : Int := if x < y then -1 else if y < x then 1 else 0
def ecmp (a b : Int × Int) : Int := if 0 = icmp a.1 b.1 then icmp a.2 b.2 else icmp a.1 b.1
def fstNZ : List Int → Int
  | [] => 0
  | x :: l => if x = 0 then fstNZ l else x

theorem ct122 (x : Int) : Ct Try.prog 122 [.one (i64 x)] (.c (.bool false)) := by
  refine ct_of tyAll Try.func122 (by decide) rfl ?_
  conv => whnf
  refine ⟨?_, trivial⟩
  show CVal.bool _ = CVal.bool _
  simp

theorem ct106 (x y : Int) : Ct Try.prog 106 [.one (i64 x), .one (i64 y)] (.c (i64 (icmp x y))) := by
  refine ct_of tyAll Try.func106 (by decide) rfl ?_
  conv => whnf
  refine ⟨_, ct122 x, ?_⟩
  conv => whnf
  refine ⟨_, ct122 y, ?_⟩
  conv => whnf
  refine acond_split (fun h1 => ?_) (fun h1 => ?_)
  · have h1 := dec h1
    conv => whnf
    refine ⟨?_, trivial⟩
    show CVal.int _ _ = CVal.int _ _
    simp [icmp, h1]
  have h1 := ndec h1
  conv => whnf
  refine acond_split (fun h2 => ?_) (fun h2 => ?_)
  · have h2 := dec h2
    conv => whnf
    refine ⟨?_, trivial⟩
    show CVal.int _ _ = CVal.int _ _
    simp [icmp, h1, h2]
  · have h2 := ndec h2
    conv => whnf
    refine ⟨?_, trivial⟩
    show CVal.int _ _ = CVal.int _ _
    simp [icmp, h1, h2]

theorem ct105 (xs : List Int) : Ct Try.prog 105 [.one (ints xs)] (.c (i64 (fstNZ xs))) := by
  refine ct_of tyAll Try.func105 (by decide) rfl ?_
  conv => whnf
  intro hlen
  conv => whnf
  refine ⟨Nat, fun k => k ≤ xs.length ∧ fstNZ (xs.drop k) = fstNZ xs, fun k => ⟨[X, X, X, I 0, X, X, .c (ints xs), I xs.length, I k, X, X, X, X, X, X, X, X, X], [], []⟩, fun k => xs.length - k, 0, ⟨by omega, rfl⟩, ?_, fun k hk => ?_⟩
  · repeat' (first | exact trivial | exact rfl | refine And.intro ?_ ?_)
  obtain ⟨hk, hp⟩ := hk
  conv => whnf
  refine acond_split (fun h1 => ?_) (fun h1 => ?_)
  · have h1 := dec h1
    have hlt : k < xs.length := by omega
    rw [List.drop_eq_getElem_cons hlt, fstNZ] at hp
    conv => whnf
    refine ⟨xs[k], by omega, List.getElem?_eq_getElem hlt, ?_⟩
    conv => whnf
    refine acond_split (fun h2 => ?_) (fun h2 => ?_)
    · have h2 := dec h2
      conv => whnf
      refine ⟨?_, trivial⟩
      rw [if_neg h2] at hp
      exact congrArg i64 hp.symm
    · have h2 := Decidable.not_not.1 (ndec h2)
      rw [if_pos h2] at hp
      conv => whnf
      refine ⟨_, wi _ (by omega) (by omega), ?_⟩
      conv => whnf
      refine ⟨k + 1, ⟨by omega, hp⟩, by show xs.length - (k + 1) < xs.length - k; omega, ?_⟩
      repeat' (first | exact trivial | exact rfl | refine And.intro ?_ ?_)
  · have h1 := ndec h1
    conv => whnf
    refine ⟨?_, trivial⟩
    rw [List.drop_eq_nil_of_le (by omega)] at hp
    exact congrArg i64 hp.symm

abbrev eA (e : Int × Int) : Av := .agg [i64 e.1, i64 e.2]
abbrev gA (n : Int) (es : List (Int × Int)) : Av := .agg [i64 n, edges es]

theorem ct72 (a b : Int × Int) : Ct Try.prog 72 [eA a, eA b] (.c (i64 (ecmp a b))) := by
  refine ct_of tyAll Try.func72 (by decide) rfl ?_
  conv => whnf
  refine draw_intro tyAll mixed 13 (by kernel_rfl) ?_
  conv => whnf
  refine ⟨_, ct106 a.1 b.1, ?_⟩
  conv => whnf
  refine ⟨_, ct106 a.2 b.2, ?_⟩
  conv => whnf
  refine ⟨Int, fun n _ => i64 n, [icmp a.1 b.1, icmp a.2 b.2], rfl, by decide, rfl, ?_⟩
  conv => whnf
  refine ⟨_, ct105 [icmp a.1 b.1, icmp a.2 b.2], .inl (flat_int _ _), ?_⟩
  conv => whnf
  refine ⟨?_, trivial⟩
  show CVal.int _ _ = CVal.int _ _
  simp only [ecmp, fstNZ]
  congr 1
  split <;> split <;> simp_all
end Go.Fx

namespace Go.Fx
open Go.Proofs
set_option maxRecDepth 100000

def beyondB (n i : Int) : Bool := decide (i < 0) || decide (n ≤ i)
def badE (n : Int) (e : Int × Int) : Bool := beyondB n e.1 || beyondB n e.2
def sortedB : List (Int × Int) → Bool
  | [] => true
  | [_] => true
  | a :: b :: l => decide (ecmp a b < 0) && sortedB (b :: l)
def checkG (n : Int) (es : List (Int × Int)) : Int :=
  if n < 0 ∨ 64 < n then 2 else if n * n < es.length then 6 else if es.any (badE n) then 2 else if sortedB es then 0 else 8

theorem sortedB_iff : ∀ {es : List (Int × Int)}, sortedB es = true ↔ ∀ j, (h : j + 1 < es.length) → ecmp (es[j]'(by omega)) es[j+1] < 0
  | [] => by simp [sortedB]
  | [_] => by simp [sortedB]
  | a :: b :: l => by
    rw [sortedB, Bool.and_eq_true, decide_eq_true_eq, sortedB_iff (es := b :: l)]
    constructor
    · rintro ⟨h1, h2⟩ j hj
      cases j with
      | zero => exact h1
      | succ j => exact h2 j (by simpa using hj)
    · intro h
      exact ⟨h 0 (by simp), fun j hj => h (j + 1) (by simpa using hj)⟩

theorem ct21 (n : Int) (es : List (Int × Int)) : Ct Try.prog 21 [gA n es] (.c (i64 (checkG n es))) := by
  refine ct_of tyAll Try.func21 (by decide) rfl ?_
  conv => whnf
  have ret2 : n < 0 ∨ 64 < n → checkG n es = 2 := fun h => by rw [checkG, if_pos h]
  refine acond_split (fun h1 => ?_) (fun h1 => ?_)
  · have h1 := dec h1
    conv => whnf
    refine ⟨?_, trivial⟩
    exact congrArg i64 (ret2 (.inl h1))
  have h1 := ndec h1
  conv => whnf
  refine acond_split (fun h2 => ?_) (fun h2 => ?_)
  · have h2 := dec h2
    conv => whnf
    refine ⟨?_, trivial⟩
    exact congrArg i64 (ret2 (.inr h2))
  have h2 := ndec h2
  have hn : ¬ (n < 0 ∨ 64 < n) := by omega
  conv => whnf
  intro hlen
  conv => whnf
  have hnn : 0 ≤ n * n ∧ n * n ≤ 4096 := by
    have h3 : n ≤ 64 := by omega
    have h4 : 0 ≤ n := by omega
    exact ⟨Int.mul_nonneg h4 h4, by have := Int.mul_le_mul h3 h3 h4 (by omega); omega⟩
  refine ⟨_, wi _ (by omega) (by omega), ?_⟩
  conv => whnf
  refine acond_split (fun h3 => ?_) (fun h3 => ?_)
  · have h3 := dec h3
    conv => whnf
    refine ⟨?_, trivial⟩
    refine congrArg i64 ?_
    rw [checkG, if_neg hn, if_pos h3]
  have h3 := ndec h3
  conv => whnf
  intro _
  conv => whnf
  refine ⟨Nat, fun k => k ≤ es.length ∧ (es.take k).any (badE n) = false, fun k => ⟨[X, .p (.one (.lptr 1 0)), X, X, X, X, X, X, X, X, X, X, X, X, X, X, X, X, X, X, X, X, X, X, X, X, .c (edges es), I es.length, I k, X, X, X, X, X, X, X, X, X, X, X, X, X, X, X, X, X, X, X, X, X, X, X, X, X, X, X, X, X, X, X, X, X, X, X, X], [(1, [.c (i64 n), .c (edges es)])], []⟩, fun k => es.length - k, 0, ⟨by omega, by simp⟩, ?_, fun k hk => ?_⟩
  · repeat' (first | exact trivial | exact rfl | refine And.intro ?_ ?_)
  obtain ⟨hk, hp⟩ := hk
  conv => whnf
  refine acond_split (fun h4 => ?_) (fun h4 => ?_)
  · have h4 := dec h4
    have hlt : k < es.length := by omega
    conv => whnf
    refine ⟨es[k], by omega, List.getElem?_eq_getElem hlt, ?_⟩
    conv => whnf
    refine ⟨_, ct70 n es[k].1, ?_⟩
    conv => whnf
    have bad : badE n es[k] = true → checkG n es = 2 := fun h => by
      rw [checkG, if_neg hn, if_neg h3, if_pos]
      exact List.any_eq_true.2 ⟨es[k], List.getElem_mem hlt, h⟩
    refine acond_split (fun h5 => ?_) (fun h5 => ?_)
    · conv => whnf
      refine ⟨?_, trivial⟩
      exact congrArg i64 (bad (by rw [badE, beyondB, h5]; rfl))
    conv => whnf
    refine ⟨_, ct70 n es[k].2, ?_⟩
    conv => whnf
    refine acond_split (fun h6 => ?_) (fun h6 => ?_)
    · conv => whnf
      refine ⟨?_, trivial⟩
      exact congrArg i64 (bad (by rw [badE, beyondB, beyondB, h6]; simp))
    conv => whnf
    refine ⟨_, wi _ (by omega) (by omega), ?_⟩
    conv => whnf
    refine ⟨k + 1, ⟨by omega, ?_⟩, by show es.length - (k + 1) < es.length - k; omega, ?_⟩
    · rw [List.take_succ_eq_append_getElem hlt, List.any_append, hp]
      simp [badE, beyondB, h5, h6]
    · repeat' (first | exact trivial | exact rfl | refine And.intro ?_ ?_)
  have h4 := ndec h4
  rw [List.take_of_length_le (by omega)] at hp
  conv => whnf
  refine ⟨Nat, fun k => 1 ≤ k ∧ (k ≤ es.length ∨ k = 1) ∧ ∀ j, (h : j + 1 < es.length) → j + 1 < k → ecmp (es[j]'(by omega)) es[j+1] < 0, fun k => ⟨[X, .p (.one (.lptr 1 0)), X, X, X, I k, X, X, X, X, X, X, X, X, X, X, X, X, X, X, X, X, X, X, X, X, X, X, X, X, X, X, X, X, X, X, X, X, X, X, X, X, X, X, X, X, X, X, X, X, X, X, X, X, X, X, X, X, X, X, X, X, X, X, X], [(1, [.c (i64 n), .c (edges es)])], []⟩, fun k => es.length - k, 1, ⟨by omega, .inr rfl, fun j h h' => by omega⟩, ?_, fun k hk' => ?_⟩
  · repeat' (first | exact trivial | exact rfl | refine And.intro ?_ ?_)
  obtain ⟨hk1, hk2, hs⟩ := hk'
  conv => whnf
  intro _
  conv => whnf
  refine acond_split (fun h5 => ?_) (fun h5 => ?_)
  · have h5 := dec h5
    have hlt : k < es.length := by omega
    conv => whnf
    refine draw_intro tyAll mixed 13 (by kernel_rfl) ?_
    conv => whnf
    refine ⟨(k - 1 : Nat), by rw [wi _ (by omega) (by omega)]; omega, ?_⟩
    conv => whnf
    refine ⟨es[k-1], by omega, List.getElem?_eq_getElem (by omega), ?_⟩
    conv => whnf
    refine ⟨es[k], by omega, List.getElem?_eq_getElem hlt, ?_⟩
    conv => whnf
    refine ⟨_, ct72 es[k-1] es[k], ?_⟩
    conv => whnf
    refine acond_split (fun h6 => ?_) (fun h6 => ?_)
    · have h6 := dec h6
      conv => whnf
      refine ⟨?_, trivial⟩
      refine congrArg i64 ?_
      rw [checkG, if_neg hn, if_neg h3, if_neg (by simp [hp]), if_neg]
      intro hc
      have := sortedB_iff.1 hc (k - 1) (by omega)
      simp only [show k - 1 + 1 = k by omega] at this
      omega
    · have h6 := ndec h6
      conv => whnf
      refine ⟨_, wi _ (by omega) (by omega), ?_⟩
      conv => whnf
      refine ⟨k + 1, ⟨by omega, .inl (by omega), fun j h h' => ?_⟩, by show es.length - (k + 1) < es.length - k; omega, ?_⟩
      · by_cases e : j + 1 = k
        · subst e
          simp only [Nat.add_sub_cancel] at h6
          omega
        · exact hs j h (by omega)
      · repeat' (first | exact trivial | exact rfl | refine And.intro ?_ ?_)
  · have h5 := ndec h5
    conv => whnf
    refine ⟨?_, trivial⟩
    refine congrArg i64 ?_
    rw [checkG, if_neg hn, if_neg h3, if_neg (by simp [hp]), if_pos]
    exact sortedB_iff.2 fun j h => hs j h (by omega)
end Go.Fx

namespace Go.Fx.Gr

abbrev Es := List (Int × Int)

def within (es : Es) : Nat → Int → Int → Bool
  | 0, a, b => decide (a = b)
  | k + 1, a, b => within es k a b || es.any fun e => within es k a e.1 && decide (e.2 = b)

def inR (n : Nat) (es : Es) : Prop := ∀ e ∈ es, (0 ≤ e.1 ∧ e.1 < n) ∧ (0 ≤ e.2 ∧ e.2 < n)

theorem within_refl (es : Es) : ∀ k a, within es k a a = true
  | 0, a => by simp [within]
  | k + 1, a => by rw [within, within_refl es k a]; rfl
theorem within_succ {es : Es} {k : Nat} {a b : Int} (h : within es k a b = true) : within es (k + 1) a b = true := by rw [within, h]; rfl
theorem within_le {es : Es} {k j : Nat} {a b : Int} (hk : k ≤ j) (h : within es k a b = true) : within es j a b = true := by
  induction j with
  | zero => rw [show k = 0 by omega] at h; exact h
  | succ j ih =>
    by_cases e : k = j + 1
    · rw [← e]; exact h
    · exact within_succ (ih (by omega))
theorem within_step {es : Es} {k : Nat} {a : Int} {e : Int × Int} (he : e ∈ es) (h : within es k a e.1 = true) : within es (k + 1) a e.2 = true := by
  rw [within, Bool.or_eq_true]
  exact .inr (List.any_eq_true.2 ⟨e, he, by simp [h]⟩)
theorem within_inv {es : Es} {k : Nat} {a b : Int} (h : within es (k + 1) a b = true) : within es k a b = true ∨ ∃ e ∈ es, within es k a e.1 = true ∧ e.2 = b := by
  rw [within, Bool.or_eq_true] at h
  rcases h with h | h
  · exact .inl h
  · obtain ⟨e, he, h⟩ := List.any_eq_true.1 h
    simp only [Bool.and_eq_true, decide_eq_true_eq] at h
    exact .inr ⟨e, he, h⟩
theorem within_trans {es : Es} {j : Nat} {a b : Int} : ∀ {k : Nat} {c : Int}, within es j a b = true → within es k b c = true → within es (j + k) a c = true
  | 0, c, h, h' => by
    have : b = c := by simpa [within] using h'
    rw [← this]; exact h
  | k + 1, c, h, h' => by
    rcases within_inv h' with h' | ⟨e, he, h1, rfl⟩
    · exact within_succ (within_trans h h')
    · exact within_step he (within_trans h h1)
theorem within_edge {es : Es} {e : Int × Int} (he : e ∈ es) : within es 1 e.1 e.2 = true := within_step he (within_refl es 0 e.1)

/-- At its least, that many steps. -/
def Far (es : Es) (d : Nat) (a b : Int) : Prop := within es d a b = true ∧ ∀ k, k < d → within es k a b = false
theorem far_of {es : Es} {a b : Int} : ∀ {k : Nat}, within es k a b = true → ∃ d, d ≤ k ∧ Far es d a b := by
  intro k
  induction k using Nat.strongRecOn with
  | _ k ih =>
    intro h
    by_cases hx : ∃ j, j < k ∧ within es j a b = true
    · obtain ⟨j, hj, h'⟩ := hx
      obtain ⟨d, h1, h2⟩ := ih j hj h'
      exact ⟨d, by omega, h2⟩
    · refine ⟨k, Nat.le_refl _, h, fun j hj => ?_⟩
      cases hw : within es j a b with
      | false => rfl
      | true => exact absurd ⟨j, hj, hw⟩ hx
theorem far_inj {es : Es} {a b : Int} {d d' : Nat} (h : Far es d a b) (h' : Far es d' a b) : d = d' := by
  rcases Nat.lt_trichotomy d d' with hl | e | hl
  · have := h'.2 d hl; rw [h.1] at this; cases this
  · exact e
  · have := h.2 d' hl; rw [h'.1] at this; cases this
theorem far_zero {es : Es} (a : Int) : Far es 0 a a := ⟨within_refl es 0 a, fun k hk => by omega⟩
/-- The one before the last on a shortest way. -/
theorem far_pred {es : Es} {a b : Int} {d : Nat} (h : Far es (d + 1) a b) : ∃ e ∈ es, e.2 = b ∧ Far es d a e.1 := by
  rcases within_inv h.1 with h1 | ⟨e, he, h1, h2⟩
  · have := h.2 d (by omega); rw [h1] at this; cases this
  · refine ⟨e, he, h2, h1, fun k hk => ?_⟩
    cases hw : within es k a e.1 with
    | false => rfl
    | true =>
      have := within_step he hw
      rw [h2, h.2 (k + 1) (by omega)] at this
      cases this
theorem far_chain {es : Es} {a : Int} {n : Nat} (hes : inR n es) (ha : 0 ≤ a ∧ a < n) : ∀ {d : Nat} {b : Int}, Far es d a b → ∃ l : List Nat, l.length = d + 1 ∧ l.Nodup ∧ (∀ x ∈ l, x < n ∧ ∃ j, j ≤ d ∧ Far es j a x)
  | 0, b, h => by
    have : a = b := by simpa [within] using h.1
    subst this
    refine ⟨[a.toNat], rfl, by simp, fun x hx => ?_⟩
    have : x = a.toNat := by simpa using hx
    subst this
    exact ⟨by omega, 0, Nat.le_refl _, by rw [Int.toNat_of_nonneg ha.1]; exact h⟩
  | d + 1, b, h => by
    obtain ⟨e, he, hb, h1⟩ := far_pred h
    obtain ⟨l, h2, h3, h4⟩ := far_chain hes ha h1
    have hbr := (hes e he).2
    rw [hb] at hbr
    refine ⟨b.toNat :: l, by simp [h2], List.nodup_cons.2 ⟨fun hm => ?_, h3⟩, fun x hx => ?_⟩
    · obtain ⟨_, j, hj, hf⟩ := h4 _ hm
      rw [Int.toNat_of_nonneg hbr.1] at hf
      have := far_inj hf h
      omega
    · rcases List.mem_cons.1 hx with rfl | hx
      · exact ⟨by omega, d + 1, Nat.le_refl _, by rw [Int.toNat_of_nonneg hbr.1]; exact h⟩
      · obtain ⟨h5, j, hj, hf⟩ := h4 x hx
        exact ⟨h5, j, by omega, hf⟩
theorem nodup_len : ∀ (n : Nat) (l : List Nat), l.Nodup → (∀ x ∈ l, x < n) → l.length ≤ n
  | 0, [], _, _ => Nat.le_refl _
  | 0, x :: l, _, h => absurd (h x List.mem_cons_self) (by omega)
  | n + 1, l, hn, h => by
    have h1 := nodup_len n (l.erase n) (hn.erase n) (fun x hx => by
      have h2 := h x (List.mem_of_mem_erase hx)
      have h3 : x ≠ n := fun e => by subst e; exact (hn.not_mem_erase) hx
      omega)
    by_cases hm : n ∈ l
    · rw [List.length_erase_of_mem hm] at h1; omega
    · rw [List.erase_of_not_mem hm] at h1; omega
/-- No shortest way is longer than there are nodes. -/
theorem far_lt {es : Es} {a b : Int} {n d : Nat} (hes : inR n es) (ha : 0 ≤ a ∧ a < n) (h : Far es d a b) : d < n := by
  obtain ⟨l, h1, h2, h3⟩ := far_chain hes ha h
  have := nodup_len n l h2 (fun x hx => (h3 x hx).1)
  omega
theorem within_n {es : Es} {a b : Int} {n k : Nat} (hes : inR n es) (ha : 0 ≤ a ∧ a < n) (h : within es k a b = true) : within es n a b = true := by
  obtain ⟨d, _, hf⟩ := far_of h
  exact within_le (by have := far_lt hes ha hf; omega) hf.1

/-- The length of the shortest ways; -1 where there is none. -/
def distFrom (es : Es) (a b : Int) : Nat → Nat → Int
  | 0, _ => -1
  | f + 1, k => if within es k a b then k else distFrom es a b f (k + 1)
def dist (n : Nat) (es : Es) (a b : Int) : Int := distFrom es a b (n + 1) 0

theorem distFrom_spec {es : Es} {a b : Int} : ∀ {f k : Nat}, (∀ j, j < k → within es j a b = false) → (∃ d, d < k + f ∧ distFrom es a b f k = d ∧ Far es d a b) ∨ (distFrom es a b f k = -1 ∧ ∀ j, j < k + f → within es j a b = false)
  | 0, k, h => .inr ⟨rfl, by simpa using h⟩
  | f + 1, k, h => by
    rw [distFrom]
    by_cases hw : within es k a b = true
    · rw [if_pos hw]
      exact .inl ⟨k, by omega, rfl, hw, h⟩
    · rw [if_neg hw]
      have hk : ∀ j, j < k + 1 → within es j a b = false := fun j hj => by
        by_cases e : j = k
        · subst e; simpa using hw
        · exact h j (by omega)
      rcases distFrom_spec (f := f) hk with ⟨d, h1, h2⟩ | ⟨h1, h2⟩
      · exact .inl ⟨d, by omega, h2⟩
      · exact .inr ⟨h1, fun j hj => h2 j (by omega)⟩
theorem dist_spec {n : Nat} {es : Es} {a b : Int} (hes : inR n es) (ha : 0 ≤ a ∧ a < n) : (∃ d : Nat, dist n es a b = d ∧ Far es d a b) ∨ (dist n es a b = -1 ∧ ∀ k, within es k a b = false) := by
  rcases distFrom_spec (es := es) (a := a) (b := b) (f := n + 1) (k := 0) (fun j hj => by omega) with ⟨d, _, h1, h2⟩ | ⟨h1, h2⟩
  · exact .inl ⟨d, h1, h2⟩
  · refine .inr ⟨h1, fun k => ?_⟩
    cases hw : within es k a b with
    | false => rfl
    | true =>
      have := within_n hes ha hw
      rw [h2 n (by omega)] at this
      cases this
theorem dist_far {n : Nat} {es : Es} {a b : Int} (hes : inR n es) (ha : 0 ≤ a ∧ a < n) {d : Nat} (h : Far es d a b) : dist n es a b = d := by
  rcases dist_spec (b := b) hes ha with ⟨d', h1, h2⟩ | ⟨_, h2⟩
  · rw [h1, far_inj h h2]
  · have := h2 d; rw [h.1] at this; cases this
theorem dist_none {n : Nat} {es : Es} {a b : Int} (hes : inR n es) (ha : 0 ≤ a ∧ a < n) (h : ∀ k, within es k a b = false) : dist n es a b = -1 := by
  rcases dist_spec (b := b) hes ha with ⟨d', h1, h2⟩ | ⟨h1, _⟩
  · have := h d'; rw [h2.1] at this; cases this
  · exact h1
theorem dist_nonneg {n : Nat} {es : Es} {a b : Int} (hes : inR n es) (ha : 0 ≤ a ∧ a < n) : 0 ≤ dist n es a b ↔ within es n a b = true := by
  constructor
  · intro h
    rcases dist_spec (b := b) hes ha with ⟨d', h1, h2⟩ | ⟨h1, _⟩
    · exact within_n hes ha h2.1
    · omega
  · intro h
    rcases dist_spec (b := b) hes ha with ⟨d', h1, h2⟩ | ⟨h1, h2⟩
    · omega
    · rw [h2 n] at h; cases h

/-! ### The nodes behind each node; what is reached -/
def nextL (n : Nat) (es : Es) : List (List Int) := (List.range n).map fun (v : Nat) => (es.filter fun e => decide (e.1 = (v : Int))).map (·.2)
def reachL (n : Nat) (es : Es) (from_ : List Int) : List Bool := (List.range n).map fun (b : Nat) => from_.any fun a => within es n a (b : Int)
def listedL : List Bool → Nat → List Int
  | [], _ => []
  | b :: l, k => if b then (k : Int) :: listedL l (k + 1) else listedL l (k + 1)

theorem listedL_append : ∀ (l l' : List Bool) (k : Nat), listedL (l ++ l') k = listedL l k ++ listedL l' (k + l.length)
  | [], l', k => by simp [listedL]
  | b :: l, l', k => by
    simp only [List.cons_append, listedL, listedL_append l l' (k + 1), List.length_cons]
    rw [show k + 1 + l.length = k + (l.length + 1) by omega]
    split <;> simp
end Go.Fx.Gr

namespace Go.Fx
open Go.Proofs Gr
set_option maxRecDepth 100000

/-- That many slots of which nothing is known. (Frames are written 'fr N [(slot, value), ..]'; mkfr.py writes them out.) -/
def sk : Nat → List AVal → List AVal
  | 0, l => l
  | n + 1, l => X :: sk n l

theorem ct87 (l : List Bool) (hb : l.length * 8 ≤ 140737488355328) : Ct Try.prog 87 [.one (bools l)] (.row (intsR (listedL l 0))) := by
  refine ct_of tyAll Try.func87 (by decide) rfl ?_
  conv => whnf
  intro hlen
  conv => whnf
  refine ⟨Nat, fun k => k ≤ l.length ∧ (listedL (l.take k) 0).length ≤ k, fun k => ⟨(sk 3 (W 100 0 :: (sk 2 (.c (bools l) :: (sk 0 (I l.length :: (sk 0 (I k :: (sk 11 []))))))))), [], [(100, (0, intsR (listedL (l.take k) 0)))]⟩, fun k => l.length - k, 0, ⟨by omega, by simp [listedL]⟩, ?_, fun k hk => ?_⟩
  · repeat' (first | exact trivial | exact rfl | refine And.intro ?_ ?_)
  obtain ⟨hk, hl⟩ := hk
  conv => whnf
  refine acond_split (fun h1 => ?_) (fun h1 => ?_)
  · have h1 := dec h1
    have hlt : k < l.length := by omega
    have hstep : listedL (l.take (k + 1)) 0 = if l[k] then listedL (l.take k) 0 ++ [(k : Int)] else listedL (l.take k) 0 := by
      rw [List.take_succ_eq_append_getElem hlt, listedL_append, List.length_take, Nat.min_eq_left (by omega)]
      simp only [listedL, Nat.zero_add]
      split <;> simp
    conv => whnf
    refine ⟨l[k], by omega, List.getElem?_eq_getElem hlt, ?_⟩
    conv => whnf
    refine acond_split (fun h2 => ?_) (fun h2 => ?_)
    · rw [h2, if_pos rfl] at hstep
      conv => whnf
      refine ⟨Int, fun n _ => i64 n, [(k : Int)], rfl, by decide, rfl, ?_⟩
      conv => whnf
      refine ⟨[(k : Int)], rfl, by simp; omega, by simp; omega, ?_⟩
      conv => whnf
      refine ⟨_, wi _ (by omega) (by omega), ?_⟩
      conv => whnf
      refine ⟨k + 1, ⟨by omega, by rw [hstep]; simp; omega⟩, by show l.length - (k + 1) < l.length - k; omega, ?_⟩
      repeat' (first | exact trivial | exact rfl | refine And.intro ?_ ?_)
      show intsR (listedL (l.take k) 0 ++ [(k : Int)]) = intsR (listedL (l.take (k + 1)) 0)
      rw [hstep]
    · rw [h2, if_neg (by simp)] at hstep
      conv => whnf
      refine ⟨_, wi _ (by omega) (by omega), ?_⟩
      conv => whnf
      refine ⟨k + 1, ⟨by omega, by rw [hstep]; omega⟩, by show l.length - (k + 1) < l.length - k; omega, ?_⟩
      repeat' (first | exact trivial | exact rfl | refine And.intro ?_ ?_)
      show intsR (listedL (l.take k) 0) = intsR (listedL (l.take (k + 1)) 0)
      rw [hstep]
  · have h1 := ndec h1
    conv => whnf
    refine ⟨?_, trivial⟩
    show intsR (listedL l 0) = intsR (listedL (l.take k) 0)
    rw [List.take_of_length_le (by omega)]
end Go.Fx

namespace Go.Fx
open Go.Proofs Go.RowKit Gr

/-- The table under way: block B holds the rows' values; each row is the call's own; no two share a block. -/
structure NInv (w0 w : World) (B n : Nat) (f : Nat → Value) (S : Nat → List Int) : Prop where
  below : Below w0.heap.size w0 w
  hb : w0.heap.size ≤ B
  blk : ∃ cur : Array Value, w.heap[B]? = some (.cells cur 42 (0, 0)) ∧ cur.size = n ∧ ∀ v, v < n → cur[v]? = some (f v)
  own : ∀ v, v < n → w.ownsRow w0.heap.size 3 1 (f v) (S v).length ((S v).map (Value.int .i64))
  sep : ∀ v v', v < n → v' < n → v ≠ v' → ∀ b, (f v).ownBlock = some b → (f v').ownBlock ≠ some b

/-- The nodes behind one node. -/
def adj (es : Es) (v : Nat) : List Int := (es.filter fun e => decide (e.1 = (v : Int))).map (·.2)

theorem adj_succ {es : Es} {k : Nat} {x : Int × Int} (hx : es[k]? = some x) (v : Nat) : adj (es.take (k + 1)) v = adj (es.take k) v ++ if x.1 = (v : Int) then [x.2] else [] := by
  obtain ⟨hk, e⟩ := List.getElem?_eq_some_iff.1 hx
  unfold adj
  rw [List.take_succ_eq_append_getElem hk, e, List.filter_append, List.map_append]
  congr 1
  by_cases h : x.1 = (v : Int) <;> simp [h]

theorem own_keep {w w' : World} {base e size n : Nat} {v : Value} {xs : List Value} (h : w.ownsRow base e size v n xs) (hm : ∀ k, v.ownBlock = some k → w'.heap[k]? = w.heap[k]?) : w'.ownsRow base e size v n xs := by
  obtain ⟨h1, h2⟩ := h
  refine ⟨h1, ?_⟩
  rcases h2 with h2 | ⟨g, cap, cur, rfl, hg, hh, r⟩
  · exact .inl h2
  · exact .inr ⟨g, cap, cur, rfl, hg, (hm g (by simp [Value.ownBlock])).trans hh, r⟩

theorem NInv.step {w wr w1 : World} {B n k a gg cap : Nat} {f : Nat → Value} {es : Es} {y : Int} {o1 o2 : Obj} {cs : List Int} {fa : Value} (HI : NInv w wr B n f (adj (es.take k))) (hx : es[k]? = some ((a : Int), y)) (ha : a < n)
    (hfa : f a = fa) (hcs : adj (es.take k) a = cs) (hown1 : w1.ownsRow w.heap.size 3 1 (.slice (some ⟨gg, 0, none⟩) (cs.length + 1) cap) (cs.length + 1) (cs.map (Value.int .i64) ++ [.int .i64 y]))
    (hgrow : (((wr.alloc o1).alloc o2).drew).grownBy w1 fa.ownBlock) (hat : fa.ownBlock = some gg ∨ gg = wr.heap.size + 1 + 1) :
    NInv w (w1.setCell ⟨B, a, none⟩ (.slice (some ⟨gg, 0, none⟩) (cs.length + 1) cap)) B n (fun v => if v = a then .slice (some ⟨gg, 0, none⟩) (cs.length + 1) cap else f v) (adj (es.take (k + 1))) := by
  obtain ⟨cur, hcur, hc1, hc2⟩ := HI.blk
  have hlt : ∀ {v b}, v < n → (f v).ownBlock = some b → w.heap.size ≤ b ∧ b < wr.heap.size ∧ b ≠ B := fun {v b} hv hb => by
    have h1 := (HI.own v hv).lt b hb
    refine ⟨h1.1, h1.2, fun e => ?_⟩
    subst e
    rcases (HI.own v hv).2 with ⟨h2, _⟩ | ⟨g, cp, cur', h2, _, h3, _⟩
    · rw [h2] at hb; simp [Value.ownBlock] at hb
    · rw [h2] at hb
      have : g = b := by simpa [Value.ownBlock] using hb
      subst this
      rw [hcur] at h3
      cases h3
  have hBlt : B < wr.heap.size := by
    rcases Nat.lt_or_ge B wr.heap.size with h | h
    · exact h
    · rw [Array.getElem?_eq_none h] at hcur; cases hcur
  have hsz : ((wr.alloc o1).alloc o2).drew.heap.size = wr.heap.size + 2 := by show ((wr.alloc o1).alloc o2).heap.size = _; simp
  -- old blocks but fa's are as they were
  have hold : ∀ b, b < wr.heap.size → fa.ownBlock ≠ some b → w1.heap[b]? = wr.heap[b]? := fun b hb hne => by
    rw [hgrow.block b (by rw [hsz]; omega) (Ne.symm hne)]
    show ((wr.alloc o1).alloc o2).heap[b]? = _
    rw [Below.heap_alloc _ _ _ (by simp; omega), Below.heap_alloc _ _ _ hb]
  have hgB : gg ≠ B := by
    rcases hat with h | h
    · exact (hlt ha (by rw [hfa]; exact h)).2.2
    · omega
  have hfaB : fa.ownBlock ≠ some B := fun h => (hlt ha (by rw [hfa]; exact h)).2.2 rfl
  have hset : ∀ b, b ≠ B → (w1.setCell ⟨B, a, none⟩ (.slice (some ⟨gg, 0, none⟩) (cs.length + 1) cap)).heap[b]? = w1.heap[b]? := fun b hb => Below.heap_setCell _ _ _ _ hb
  refine ⟨?_, HI.hb, ?_, fun v hv => ?_, fun v v' hv hv' hne b hb => ?_⟩
  · refine Below.setCell ?_ HI.hb _
    refine Below.grown ((HI.below.alloc HI.below.size o1).alloc (Nat.le_trans HI.below.size (by simp)) o2).drew hgrow (by rw [hsz]; have := HI.below.size; omega) fun b hb => ?_
    exact (hlt ha (by rw [hfa]; exact hb)).1
  · refine ⟨cur.setIfInBounds a (.slice (some ⟨gg, 0, none⟩) (cs.length + 1) cap), ?_, by simp [hc1], fun v hv => ?_⟩
    · have h1 : w1.heap[B]? = some (.cells cur 42 (0, 0)) := by rw [hold B hBlt hfaB]; exact hcur
      simp [World.setCell, Array.getElem?_modify, h1]
    · rw [Array.getElem?_setIfInBounds]
      by_cases e : v = a
      · subst e; simp [hc1, hv]
      · rw [if_neg (Ne.symm e), if_neg e]; exact hc2 v hv
  · by_cases e : v = a
    · subst e
      rw [if_pos rfl, adj_succ hx, hcs, if_pos rfl, List.length_append, List.map_append]
      refine own_keep hown1 fun b hb => hset b ?_
      have : gg = b := by simpa [Value.ownBlock] using hb
      omega
    · rw [if_neg e, adj_succ hx, if_neg (by simp; omega), List.append_nil]
      refine own_keep (HI.own v hv) fun b hb => ?_
      obtain ⟨h1, h2, h3⟩ := hlt hv hb
      rw [hset b h3, hold b h2 (fun h => HI.sep v a hv ha e b hb (by rw [hfa]; exact h))]
  · by_cases e : v = a
    · subst e
      rw [if_pos rfl] at hb
      have hb : gg = b := by simpa [Value.ownBlock] using hb
      subst hb
      rw [if_neg (Ne.symm hne)]
      intro h
      obtain ⟨h1, h2, h3⟩ := hlt hv' h
      rcases hat with h4 | h4
      · exact HI.sep v v' hv hv' hne gg (by rw [hfa]; exact h4) h
      · omega
    · rw [if_neg e] at hb
      obtain ⟨h1, h2, h3⟩ := hlt hv hb
      by_cases e' : v' = a
      · rw [if_pos e']
        intro h
        have h : gg = b := by simpa [Value.ownBlock] using h
        subst h
        rcases hat with h4 | h4
        · exact HI.sep v a hv ha (by omega) gg hb (by rw [hfa]; exact h4)
        · omega
      · rw [if_neg e']
        exact HI.sep v v' hv hv' hne b hb

theorem next_info42 : (Try.prog.info? 42).map (fun i => (i.zero, i.size, i.bytes)) = some (some (.slice none 0 0), 1, 24) := by kernel_rfl
theorem next_info3 : (Try.prog.info? 3).map (fun i => (i.zero, i.size, i.bytes)) = some (some (.int .i64 0), 1, 8) := by kernel_rfl

set_option maxRecDepth 100000 in
set_option maxHeartbeats 4000000 in
theorem next_walk (n : Nat) (hn : n ≤ 64) (es : Es) (hes : inR n es) (hl : es.length ≤ 1000000) (w : World) (A : Option Addr) (c : Nat) (hc : es.length ≤ c)
    (hr : ∀ k x, es[k]? = some x → ∃ b o, A = some ⟨b, o, none⟩ ∧ b < w.heap.size ∧ w.cell? ⟨b, o + k * 2, none⟩ = some (.int .i64 x.1) ∧ w.cell? ⟨b, o + k * 2 + 1, none⟩ = some (.int .i64 x.2)) :
    Calls Try.prog 84 #[.agg #[.int .i64 (n : Int), .slice A es.length c]] w fun e w' => ∃ B f, e = .returned (.slice (some ⟨B, 0, none⟩) n n) ∧ NInv w w' B n f (adj es) := by
  obtain ⟨i42, hi42, hz42, hs42, hb42⟩ := info_parts next_info42
  have hmk : ∀ w, (Instr.makeSlice 58 (.int .i64 (n : Int)) (.int .i64 (n : Int))).run Try.prog w = .ok (.slice (some ⟨w.heap.size, 0, none⟩) n n) (w.alloc (.cells (madeCells #[.slice none 0 0] n) 42)) := fun w => by
    have h := run_make (P := Try.prog) w 58 42 i42 (.slice none 0 0) Try.underlying58 hi42 hz42 .i64 .i64 (n : Int) (n : Int) (by omega) (by omega) (by rw [hb42]; omega) (by omega)
    rw [hs42, Nat.mul_one, Int.toNat_natCast] at h
    exact h
  go_enter Try.func84, Try.ntmps84
  go_wp2_with fail
  obtain ⟨B, hB⟩ : ∃ B, B = w.heap.size + 1 := ⟨_, rfl⟩
  rw [← hB]
  have start : NInv w ((w.alloc (Obj.cells #[Value.int IntKind.i64 ↑n, Value.slice A (List.length es) c] 26)).alloc (Obj.cells (madeCells #[Value.slice none 0 0] n) 42)) B n (fun _ => .slice none 0 0) (adj (es.take 0)) := by
    rw [hB]
    refine ⟨((Below.refl _ _).alloc (Nat.le_refl _) _).alloc (by simp) _, by omega, ⟨madeCells #[Value.slice none 0 0] n, ?_, size_madeCells _ _, fun v hv => ?_⟩, fun v hv => ?_, fun v v' hv hv' hne b hb => ?_⟩
    · have h := heap_alloc_new (w.alloc (Obj.cells #[Value.int IntKind.i64 ↑n, Value.slice A (List.length es) c] 26)) (Obj.cells (madeCells #[Value.slice none 0 0] n) 42)
      have hs : (w.alloc (Obj.cells #[Value.int IntKind.i64 ↑n, Value.slice A (List.length es) c] 26)).heap.size = w.heap.size + 1 := by simp
      rw [hs] at h
      exact h
    · simp [madeCells, hv, Nat.mod_one]
    · exact World.ownsRow_nil _ _ _ _
    · simp [Value.ownBlock] at hb
  have HB : Hid (w.heap.size < B) := by show _ < _; omega
  have HR : Hid (∀ k x, es[k]? = some x → ∃ b o, A = some ⟨b, o, none⟩ ∧ b < w.heap.size ∧ w.cell? ⟨b, o + k * 2, none⟩ = some (.int .i64 x.1) ∧ w.cell? ⟨b, o + k * 2 + 1, none⟩ = some (.int .i64 x.2)) := hr
  have HES : Hid (inR n es) := hes
  have ST : Hid _ := start
  clear hr hes hB start hmk
  go_loopg [12] es.length (fun g s12 wr => ∃ (k : Nat) (f : Nat → Value), s12 = .int .i64 k ∧ k ≤ es.length ∧ es.length - k ≤ g ∧ Hid (NInv w wr B n f (adj (es.take k))))
  case atStart => exact ⟨0, fun _ => .slice none 0 0, rfl, by omega, by omega, ST.out⟩
  case round =>
    obtain ⟨k, f, rfl, hk, hg, HI⟩ := hrel
    clear ST
    by_cases hlt : k < es.length
    · obtain ⟨x, hx⟩ : ∃ x, es[k]? = some x := ⟨_, List.getElem?_eq_getElem hlt⟩
      obtain ⟨b, o, rfl, hb, hx1, hx2⟩ := HR.out k x hx
      have hxr : (0 ≤ x.1 ∧ x.1 < n) ∧ 0 ≤ x.2 ∧ x.2 < n := HES.out x (List.mem_of_getElem? hx)
      have hltz : (k : Int) < (es.length : Int) := by omega
      have hc1 : wr.cell? ⟨b, o + k * 2, none⟩ = some (.int .i64 x.1) := by rw [← hx1]; exact HI.out.below.cell hb
      have hc2 : wr.cell? ⟨b, o + k * 2 + 1, none⟩ = some (.int .i64 x.2) := by rw [← hx2]; exact HI.out.below.cell hb
      obtain ⟨a, ha⟩ : ∃ a : Nat, x.1 = a := ⟨x.1.toNat, by omega⟩
      obtain ⟨y, hy⟩ : ∃ y : Int, x.2 = y := ⟨_, rfl⟩
      have HX : Hid (x = ((a : Int), y)) := by show _ = _; rw [← ha, ← hy]
      rw [ha] at hc1
      rw [hy] at hc2
      have han : a < n := by omega
      have hy0 : 0 ≤ y ∧ y < n := by rw [← hy]; exact hxr.2
      clear hx1 hx2 hxr
      have HXE : Hid (es[k]? = some x) := hx
      clear hx ha hy
      obtain ⟨i3, hi3, hz3, hs3, hb3⟩ := info_parts next_info3
      obtain ⟨fa, hfa⟩ : ∃ fa, f a = fa := ⟨_, rfl⟩
      obtain ⟨cs, hcs⟩ : ∃ cs, adj (es.take k) a = cs := ⟨_, rfl⟩
      have hown : wr.ownsRow w.heap.size 3 1 fa cs.length (cs.map (Value.int .i64)) := by rw [← hfa, ← hcs]; exact HI.out.own a han
      obtain ⟨cur, hcur, hcs1, hcs2⟩ := HI.out.blk
      have hBlt : B < wr.heap.size := by
        rcases Nat.lt_or_ge B wr.heap.size with h | h
        · exact h
        · rw [Array.getElem?_eq_none h] at hcur; cases hcur
      have hcB : wr.cell? ⟨B, a, none⟩ = some fa := by
        rw [cell_of_row wr B _ cur 42 (0, 0) hcur, hcs2 a han, hfa]
      have hfB : wr.frozen? ⟨B, a, none⟩ = false := by simp [World.frozen?, hcur]
      have hlt3 : ∀ b', fa.ownBlock = some b' → b' < wr.heap.size := by
        intro b' hb'
        rcases hown.2 with ⟨h1, _⟩ | ⟨g, cap, cur', h1, _, h2, _⟩
        · rw [h1] at hb'; simp [Value.ownBlock] at hb'
        · rw [h1] at hb'
          have : g = b' := by simpa [Value.ownBlock] using hb'
          subst this
          rcases Nat.lt_or_ge g wr.heap.size with h | h
          · exact h
          · rw [Array.getElem?_eq_none h] at h2; cases h2
      have agB : fa.ownBlock ≠ some B := by
        intro hb'
        rcases hown.2 with ⟨h1, _⟩ | ⟨g, cap, cur', h1, _, h2, _⟩
        · rw [h1] at hb'; simp [Value.ownBlock] at hb'
        · rw [h1] at hb'
          have : g = B := by simpa [Value.ownBlock] using hb'
          subst this
          rw [hcur] at h2
          cases h2
      have agE : fa.ownBlock ≠ some wr.heap.size := fun hb' => Nat.lt_irrefl _ (hlt3 _ hb')
      have hcl : cs.length ≤ 1000000 := by
        rw [← hcs]; unfold adj; rw [List.length_map]
        exact Nat.le_trans (List.length_filter_le _ _) (by simp; omega)
      have hbase : w.heap.size ≤ wr.heap.size := HI.out.below.size
      have hai0 : (0 : Int) ≤ (a : Int) := Int.natCast_nonneg _
      have hai1 : (a : Int) < (n : Int) := by omega
      have HL3 : Hid (∀ b', fa.ownBlock = some b' → b' < wr.heap.size) := hlt3
      have HFA : Hid (f a = fa ∧ adj (es.take k) a = cs) := ⟨hfa, hcs⟩
      have HCUR : Hid (wr.heap[B]? = some (.cells cur 42 (0, 0)) ∧ cur.size = n ∧ ∀ v, v < n → cur[v]? = some (f v)) := ⟨hcur, hcs1, hcs2⟩
      clear hlt3 hfa hcs hcur hcs1 hcs2
      go_wp2_with fail
      have e0 : (wr.alloc (Obj.cells #[Value.int IntKind.i64 ↑a, Value.int IntKind.i64 y] 32)).cell? ⟨wr.heap.size, 0, none⟩ = some (.int .i64 a) := World.cell?_alloc_mark wr #[.int .i64 a, .int .i64 y] 32 (0, 0) 0
      have e1 : (wr.alloc (Obj.cells #[Value.int IntKind.i64 ↑a, Value.int IntKind.i64 y] 32)).cell? ⟨wr.heap.size, 1, none⟩ = some (.int .i64 y) := World.cell?_alloc_mark wr #[.int .i64 a, .int .i64 y] 32 (0, 0) 1
      have e3 : (wr.alloc (Obj.cells #[Value.int IntKind.i64 ↑a, Value.int IntKind.i64 y] 32)).drew.frozen? ⟨B, a, none⟩ = false := by
        rw [← hfB]
        show (wr.alloc _).frozen? _ = _
        exact World.frozen?_of_block (Below.heap_alloc _ _ _ hBlt)
      have e4 : ((wr.alloc (Obj.cells #[Value.int IntKind.i64 ↑a, Value.int IntKind.i64 y] 32)).alloc (Obj.cells #[Value.int IntKind.i64 y] 3)).drew.frozen? ⟨B, a, none⟩ = false := by
        rw [← e3]
        exact World.frozen?_of_block (Below.heap_alloc _ _ _ (by simp; omega))
      have hNE : wr.heap.size ≠ B := by omega
      have c8 : ((wr.alloc (Obj.cells #[Value.int IntKind.i64 ↑a, Value.int IntKind.i64 y] 32)).alloc (Obj.cells #[Value.int IntKind.i64 y] 3)).drew.cell? ⟨B, a, none⟩ = some fa := by
        rw [← hcB]
        refine (World.cell?_of_block (w := wr.alloc (Obj.cells #[Value.int IntKind.i64 ↑a, Value.int IntKind.i64 y] 32)) (Below.heap_alloc _ _ _ (by simp; omega))).trans ?_
        exact World.cell?_of_block (Below.heap_alloc _ _ _ hBlt)
      have e2 : ((wr.alloc (Obj.cells #[Value.int IntKind.i64 ↑a, Value.int IntKind.i64 y] 32)).alloc (Obj.cells #[Value.int IntKind.i64 y] 3)).heap[wr.heap.size + 1]? = some (Obj.cells #[Value.int IntKind.i64 y] 3) := by
        have h := heap_alloc_new (wr.alloc (Obj.cells #[Value.int IntKind.i64 ↑a, Value.int IntKind.i64 y] 32)) (Obj.cells #[Value.int IntKind.i64 y] 3)
        have hs : (wr.alloc (Obj.cells #[Value.int IntKind.i64 ↑a, Value.int IntKind.i64 y] 32)).heap.size = wr.heap.size + 1 := by simp
        rw [hs] at h
        exact h
      have E2 : Hid _ := e2
      have e0b : ((wr.alloc (Obj.cells #[Value.int IntKind.i64 ↑a, Value.int IntKind.i64 y] 32)).alloc (Obj.cells #[Value.int IntKind.i64 y] 3)).drew.cell? ⟨wr.heap.size, 0, none⟩ = some (.int .i64 a) :=
        (World.cell?_of_block (w := wr.alloc (Obj.cells #[Value.int IntKind.i64 ↑a, Value.int IntKind.i64 y] 32)) (Below.heap_alloc _ _ _ (by simp))).trans e0
      have e1b : ((wr.alloc (Obj.cells #[Value.int IntKind.i64 ↑a, Value.int IntKind.i64 y] 32)).alloc (Obj.cells #[Value.int IntKind.i64 y] 3)).drew.cell? ⟨wr.heap.size, 1, none⟩ = some (.int .i64 y) :=
        (World.cell?_of_block (w := wr.alloc (Obj.cells #[Value.int IntKind.i64 ↑a, Value.int IntKind.i64 y] 32)) (Below.heap_alloc _ _ _ (by simp))).trans e1
      clear e2
      have hmx : cs.length + 1 ≤ maxLen := by simp only [maxLen]; omega
      go_region_law ((refine step_append_lies _ (by rfl) _ _ _ (by rfl) w.heap.size 3 i3 _ 1 8 Try.underlying42 hi3 hz3 hs3 hb3 rfl (by omega) fa cs.length (cs.map (Value.int .i64)) (by rfl) (((hown.alloc _).alloc _).drew) ⟨wr.heap.size + 1, 0, none⟩ 1 1 [.int .i64 y] (by rfl) (by rfl) (World.news_of_block (cs := #[.int .i64 y]) (t := 3) (fr := (0, 0)) E2.out) (by simp [Value.oneCell']) (by omega) hmx (by omega) (by simp; omega) (wr.heap.size + 1 + 1) (by simp) ?_; intro gg cap w1 hown1 hgrow hat hlt; have c9 : w1.cell? ⟨B, a, none⟩ = some fa := (by rw [hgrow.cell_far _ (by simp; omega) (Ne.symm agB)]; exact c8); have c10 : w1.cell? ⟨wr.heap.size, 0, none⟩ = some (.int .i64 a) := (by rw [hgrow.cell_far _ (by simp; omega) (Ne.symm agE)]; exact e0b); have c11 : w1.cell? ⟨wr.heap.size, 1, none⟩ = some (.int .i64 y) := (by rw [hgrow.cell_far _ (by simp; omega) (Ne.symm agE)]; exact e1b); have f9 : w1.frozen? ⟨B, a, none⟩ = false := (by rw [hgrow.frozen_far _ (by simp; omega) (Ne.symm agB)]; exact e4)))
      all_goals go_wp2
      all_goals go_roundg (es.length - (k + 1))
      all_goals first | omega | skip
      all_goals exact ⟨k + 1, fun v => if v = a then .slice (some ⟨gg, 0, none⟩) (cs.length + 1) cap else f v, by go_num, by omega, Nat.le_refl _, NInv.step HI.out (by rw [HXE.out, HX.out]) han HFA.out.1 HFA.out.2 hown1 hgrow hat⟩
    · have hk' : k = es.length := by omega
      subst hk'
      go_wp2
      go_ret
      have := HI.out
      rw [List.take_length] at this
      exact ⟨B, f, rfl, this⟩
end Go.Fx

namespace Go.Fx
open Go.Proofs Gr Go.RowKit

theorem next_rep {n : Nat} (hn : n ≤ 64) {es : Es} {w w' : World} {B : Nat} {f : Nat → Value} (h : NInv w w' B n f (adj es)) (Y : Nat → Prop) (hY : ∀ b, Y b → b < w.heap.size) :
    RvRep w.heap.size w' Y (.row (tableR (nextL n es))) (.slice (some ⟨B, 0, none⟩) n n) := by
  obtain ⟨cur, hcur, hc1, hc2⟩ := h.blk
  have hlen : (nextL n es).length = n := by simp [nextL]
  refine ⟨fun _ => .slice (some ⟨B, 0, none⟩) n n, fun r R hr => ?_, fun r r' R R' b h1 h2 _ _ => ?_, ?_⟩
  · have hr : lget [(0, tableR (nextL n es))] r = some R := hr
    have hR : r = 0 ∧ R = tableR (nextL n es) := by
      rw [lget_cons] at hr
      split at hr
      · rename_i e
        cases hr
        exact ⟨e.symm, rfl⟩
      · simp [lget] at hr
    obtain ⟨rfl, rfl⟩ := hR
    refine .inr ⟨B, 0, n, cur, by rw [show (tableR (nextL n es)).xs.length = n from hlen], h.hb, hcur, by show (nextL n es).length ≤ n; omega, by simp only [maxI]; omega, by show 0 + n * 1 ≤ cur.size; omega, fun j x hj i hi => ?_⟩
    have hj : (nextL n es)[j]? = some x := hj
    have hjn : j < n := by
      have := (List.getElem?_eq_some_iff.1 hj).1
      omega
    have hx : x = adj es j := by
      have h2 : (nextL n es)[j]? = some (adj es j) := by simp [nextL, adj, hjn]
      rw [hj] at h2
      exact Option.some.inj h2
    have hi : i < 1 := hi
    obtain rfl : i = 0 := by omega
    refine ⟨f j, by rw [show 0 + j * (tableR (nextL n es)).k + 0 = j from by show 0 + j * 1 + 0 = j; omega]; exact hc2 j hjn, ?_⟩
    show Rep w' _ (ints x) (f j)
    obtain ⟨h3, h4⟩ := h.own j hjn
    rcases h4 with ⟨h5, h6⟩ | ⟨g, cap, cur', h5, hg, hh, hn2, hm, hs, ht⟩
    · rw [h5]
      rw [← hx] at h6
      have : x = [] := List.eq_nil_of_length_eq_zero h6
      subst this
      exact ⟨none, 0, rfl, Nat.le_refl _, Nat.zero_le _, fun h => absurd rfl h⟩
    · rw [h5, ← hx]
      rw [← hx] at hn2 ht h3
      refine ⟨some ⟨g, 0, none⟩, cap, rfl, hn2, Nat.le_trans hn2 hm, fun _ => ⟨g, 0, rfl, ?_, ?_, fun t z hz i hi => ?_⟩⟩
      · rintro (hb | ⟨r, R, _, hb⟩)
        · have := hY g hb; omega
        · have : B = g := by simpa [Value.ownBlock] using hb
          subst this
          rw [hcur] at hh
          cases hh
      · rcases Nat.lt_or_ge g w'.heap.size with h | h
        · exact h
        · rw [Array.getElem?_eq_none h] at hh; cases hh
      · obtain rfl : i = 0 := by omega
        refine ⟨.int .i64 z, ?_, rfl⟩
        rw [cell_of_row w' g _ cur' 3 (0, 0) hh, show 0 + t * 1 + 0 = t by omega]
        have hlt := (List.getElem?_eq_some_iff.1 hz).1
        have h7 : (cur'.toList.take (x.length * 1))[t]? = some (.int .i64 z) := by
          rw [ht, List.getElem?_map, hz]; rfl
        rw [List.getElem?_take, if_pos (by omega)] at h7
        simpa using h7
  · have e1 : r = 0 := by
      have h1 : lget [(0, tableR (nextL n es))] r = some R := h1
      rw [lget_cons] at h1
      split at h1
      · rename_i e; exact e.symm
      · simp [lget] at h1
    have e2 : r' = 0 := by
      have h2 : lget [(0, tableR (nextL n es))] r' = some R' := h2
      rw [lget_cons] at h2
      split at h2
      · rename_i e; exact e.symm
      · simp [lget] at h2
    omega
  · refine ⟨0, tableR (nextL n es), ?_, Nat.le_refl _, fun _ => rfl⟩
    show Option.map (fun R => (0, R)) (lget [(0, tableR (nextL n es))] 0) = _
    simp [lget]

theorem next_calls (n : Nat) (hn : n ≤ 64) (es : Es) (hes : inR n es) (hl : es.length ≤ 1000000) {w : World} {X : Nat → Prop} {vs : List Value} (h : All2 (ARep w X) [gA n es] vs) :
    Calls Try.prog 84 vs.toArray w fun e w' => ∃ B f, e = .returned (.slice (some ⟨B, 0, none⟩) n n) ∧ NInv w w' B n f (adj es) := by
  match vs, h with
  | [v], ⟨⟨l, hv, hl2⟩, _⟩ =>
    match l, hl2 with
    | [p, q], ⟨hp, hq, _⟩ =>
      have hp : p = .int .i64 n := hp
      obtain ⟨A, c, hq, hc, _, hr⟩ := hq
      subst hv; subst hp; subst hq
      refine next_walk n hn es hes hl w A c hc fun k x hx => ?_
      obtain ⟨b, o, hA, _, hb, hcell⟩ := hr (fun e => by rw [e] at hx; simp at hx)
      obtain ⟨u0, h0, h1⟩ := hcell k x hx 0 (by omega)
      obtain ⟨u1, h2, h3⟩ := hcell k x hx 1 (by omega)
      have h1 : u0 = .int .i64 x.1 := h1
      have h3 : u1 = .int .i64 x.2 := h3
      subst h1; subst h3
      exact ⟨b, o, hA, hb, h0, h2⟩

theorem ct84 (n : Nat) (hn : n ≤ 64) (es : Es) (hes : inR n es) (hl : es.length ≤ 1000000) : Ct Try.prog 84 [gA n es] (.row (tableR (nextL n es))) :=
  ⟨enters_of Try.func84 (by kernel_rfl) rfl, fun w X vs hX hA => (next_calls n hn es hes hl hA).mono fun e w' ⟨B, f, he, hI⟩ => ⟨hI.below, _, he, next_rep hn hI X hX⟩⟩
theorem cf84 (n : Nat) (hn : n ≤ 64) (es : Es) (hes : inR n es) (hl : es.length ≤ 1000000) : Cf Try.prog 84 [gA n es] (.row (tableR (nextL n es))) :=
  ⟨enters_of Try.func84 (by kernel_rfl) rfl, fun w X vs hX hA => (next_calls n hn es hes hl hA).mono fun e w' ⟨B, f, he, hI⟩ => ⟨hI.below, _, he, next_rep hn hI _ fun b hb => hb⟩⟩
end Go.Fx

namespace Go.Fx.Gr

def both (n : Nat) (es : Es) (a b : Nat) : Bool := within es n (a : Int) (b : Int) && within es n (b : Int) (a : Int)
theorem mut_refl (n : Nat) (es : Es) (a : Nat) : both n es a a = true := by simp [both, within_refl]
theorem mut_symm {n : Nat} {es : Es} {a b : Nat} (h : both n es a b = true) : both n es b a = true := by
  simp only [both, Bool.and_eq_true] at h ⊢; exact ⟨h.2, h.1⟩
theorem mut_trans {n : Nat} {es : Es} (hes : inR n es) {a b c : Nat} (ha : a < n) (hc : c < n) (h : both n es a b = true) (h' : both n es b c = true) : both n es a c = true := by
  simp only [both, Bool.and_eq_true] at h h' ⊢
  exact ⟨within_n hes (by omega) (within_trans h.1 h'.1), within_n hes (by omega) (within_trans h'.2 h.2)⟩

/-- The least of its class. -/
def isRep (n : Nat) (es : Es) (k : Nat) : Bool := (List.range k).all fun b => !both n es k b
def reps (n : Nat) (es : Es) (k : Nat) : List Nat := (List.range k).filter (isRep n es)
def cls (n : Nat) (es : Es) (a : Nat) : List Int := ((List.range n).filter fun b => both n es a b).map fun (b : Nat) => (b : Int)
def compL (n : Nat) (es : Es) : List (List Int) := (reps n es n).map (cls n es)
def ofK (n : Nat) (es : Es) (k j : Nat) : Int := match (reps n es k).findIdx? fun r => both n es r j with
  | some i => i
  | none => -1
def ofL (n : Nat) (es : Es) : List Int := (List.range n).map (ofK n es n)

theorem isRep_iff {n : Nat} {es : Es} {k : Nat} : isRep n es k = true ↔ ∀ b, b < k → both n es k b = false := by
  unfold isRep
  rw [List.all_eq_true]
  constructor
  · intro h b hb; simpa using h b (List.mem_range.2 hb)
  · intro h b hb; simp [h b (List.mem_range.1 hb)]
theorem reps_succ (n : Nat) (es : Es) (k : Nat) : reps n es (k + 1) = reps n es k ++ if isRep n es k then [k] else [] := by
  unfold reps
  rw [List.range_succ, List.filter_append]
  congr 1
  cases h : isRep n es k <;> simp [h]
theorem mem_reps {n : Nat} {es : Es} {k r : Nat} : r ∈ reps n es k ↔ r < k ∧ isRep n es r = true := by
  unfold reps; rw [List.mem_filter, List.mem_range]

/-- Each has a least one in its class. -/
theorem rep_of {n : Nat} {es : Es} (hes : inR n es) : ∀ k, k < n → ∃ r, r ≤ k ∧ isRep n es r = true ∧ both n es r k = true := by
  intro k
  induction k using Nat.strongRecOn with
  | _ k ih =>
    intro hk
    cases hr : isRep n es k with
    | true => exact ⟨k, Nat.le_refl _, hr, mut_refl n es k⟩
    | false =>
      have : ∃ b, b < k ∧ both n es k b = true := by
        have h : ¬ (isRep n es k = true) := by rw [hr]; simp
        rw [isRep_iff] at h
        have h' : ∃ b, ¬ (b < k → both n es k b = false) := Classical.not_forall.1 h
        obtain ⟨b, hb⟩ := h'
        refine ⟨b, ?_, ?_⟩
        · exact Classical.byContradiction fun hn => hb fun h => absurd h hn
        · cases hm : both n es k b with
          | true => rfl
          | false => exact absurd (fun _ => hm) hb
      obtain ⟨b, hb, hm⟩ := this
      obtain ⟨r, h1, h2, h3⟩ := ih b hb (by omega)
      exact ⟨r, by omega, h2, mut_trans hes (by omega) hk h3 (mut_symm hm)⟩

theorem find_none {n : Nat} {es : Es} {k j : Nat} (h : ∀ r, r < k → isRep n es r = true → both n es r j = false) : (reps n es k).findIdx? (fun r => both n es r j) = none := by
  rw [List.findIdx?_eq_none_iff]
  intro r hr
  have := mem_reps.1 hr
  exact h r this.1 this.2

/-- A node that is not yet placed is the least of its class. -/
theorem rep_of_neg {n : Nat} {es : Es} (hes : inR n es) {k : Nat} (hk : k < n) : ofK n es k k < 0 ↔ isRep n es k = true := by
  constructor
  · intro h
    obtain ⟨r, h1, h2, h3⟩ := rep_of hes k hk
    by_cases e : r = k
    · rw [← e]; exact h2
    · exfalso
      have hm : r ∈ reps n es k := mem_reps.2 ⟨by omega, h2⟩
      unfold ofK at h
      cases hf : (reps n es k).findIdx? (fun r => both n es r k) with
      | none =>
        rw [List.findIdx?_eq_none_iff] at hf
        have := hf r hm
        rw [h3] at this
        cases this
      | some i => rw [hf] at h; simp at h; omega
  · intro h
    have : (reps n es k).findIdx? (fun r => both n es r k) = none := find_none fun r hr _ => by
      cases hm : both n es r k with
      | false => rfl
      | true =>
        have := isRep_iff.1 h r hr
        rw [mut_symm hm] at this
        cases this
    unfold ofK
    rw [this]
    simp

theorem ofK_skip {n : Nat} {es : Es} {k j : Nat} (h : isRep n es k = false) : ofK n es (k + 1) j = ofK n es k j := by
  unfold ofK
  rw [reps_succ, h]
  simp
theorem ofK_rep {n : Nat} {es : Es} (hes : inR n es) {k j : Nat} (hj : j < n) (hk : k < n) (h : isRep n es k = true) : ofK n es (k + 1) j = if both n es k j then ((reps n es k).length : Int) else ofK n es k j := by
  unfold ofK
  rw [reps_succ, h, if_pos rfl, List.findIdx?_append]
  cases hm : both n es k j with
  | true =>
    have : (reps n es k).findIdx? (fun r => both n es r j) = none := find_none fun r hr hrr => by
      cases hm' : both n es r j with
      | false => rfl
      | true =>
        have h1 := mut_trans hes (by omega) hk hm' (mut_symm hm)
        have := isRep_iff.1 h r hr
        rw [mut_symm h1] at this
        cases this
    rw [this]
    simp [List.findIdx?_cons, hm]
  | false =>
    cases hf : (reps n es k).findIdx? (fun r => both n es r j) with
    | none => simp [List.findIdx?_cons, hm]
    | some i => simp
theorem cls_rep {n : Nat} {es : Es} {k : Nat} (h : isRep n es k = true) : cls n es k = ((List.range n).filter fun b => decide (k ≤ b) && both n es k b).map fun (b : Nat) => (b : Int) := by
  unfold cls
  congr 1
  refine List.filter_congr fun b hb => ?_
  by_cases hkb : k ≤ b
  · simp [hkb]
  · rw [isRep_iff.1 h b (by omega)]; simp
theorem comp_rep {n : Nat} {es : Es} {k : Nat} (h : isRep n es k = true) : (reps n es (k + 1)).map (cls n es) = (reps n es k).map (cls n es) ++ [cls n es k] := by
  rw [reps_succ, h]; simp
theorem comp_skip {n : Nat} {es : Es} {k : Nat} (h : isRep n es k = false) : reps n es (k + 1) = reps n es k := by
  rw [reps_succ, h]; simp
theorem reps_le (n : Nat) (es : Es) (k : Nat) : (reps n es k).length ≤ k := by
  have := List.length_filter_le (isRep n es) (List.range k)
  simpa [reps] using this
theorem reach_one {n : Nat} {es : Es} {a b : Nat} (hb : b < n) : (reachL n es [(a : Int)])[b]? = some (within es n (a : Int) (b : Int)) := by
  unfold reachL
  rw [List.getElem?_map, List.getElem?_range hb]
  simp
end Go.Fx.Gr
