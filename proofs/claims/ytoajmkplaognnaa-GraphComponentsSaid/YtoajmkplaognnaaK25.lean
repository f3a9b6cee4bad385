/- The reference's classes and Components. The reference's Condense and Sinks. The reference's Sinks; Grow, Concat. slices.Grow of a nil slice: nothing is in it. slices.Concat; Condense, Parts; the reference's Parts. -/
import Derived.Test.YtoajmkplaognnaaK22
import Derived.Test.YtoajmkplaognnaaK11
import Derived.Test.YtoajmkplaognnaaK12
import Derived.Test.YtoajmkplaognnaaK6
import Derived.Test.YtoajmkplaognnaaK7
import Derived.Lib.AppendZeros
import Derived.Test.YtoajmkplaognnaaK24
set_option linter.unusedVariables false
set_option linter.unusedSimpArgs false
set_option linter.unusedSectionVars false
namespace Go.Fx.Gr
open Go.Fx
def clsP (n : Nat) (es : Es) (a b : Nat) : List Int := ((List.range b).filter fun b => both n es a b).map fun (b : Nat) => (b : Int)
theorem clsP_succ (n : Nat) (es : Es) (a b : Nat) : clsP n es a (b + 1) = clsP n es a b ++ if both n es a b = true then [(b : Int)] else [] := by
  unfold clsP
  rw [take_range_filter, List.map_append]
  congr 1
  split <;> rfl
theorem clsP_all (n : Nat) (es : Es) (a : Nat) : clsP n es a n = cls n es a := rfl
theorem clsP_length (n : Nat) (es : Es) (a b : Nat) : (clsP n es a b).length ≤ b := by
  unfold clsP
  rw [List.length_map]
  exact Nat.le_trans (List.length_filter_le _ _) (by simp)
theorem cls_head {n : Nat} {es : Es} {a : Nat} (ha : a < n) : ∃ h : Nat, (cls n es a)[0]? = some (h : Int) ∧ (h = a ↔ isRep n es a = true) := by
  have hm : (a : Int) ∈ cls n es a := cls_mem.2 ⟨by omega, mut_refl n es a⟩
  have hasc := cls_asc n es a
  cases hc : cls n es a with
  | nil => rw [hc] at hm; cases hm
  | cons x t =>
    have hx := (cls_mem.1 (show x ∈ cls n es a by rw [hc]; exact List.mem_cons_self))
    rw [hc] at hasc
    have hle : ∀ y ∈ cls n es a, x ≤ y := fun y hy => by
      rw [hc] at hy
      rcases List.mem_cons.1 hy with rfl | hy
      · exact Int.le_refl _
      · have := (List.pairwise_cons.1 hasc).1 y hy; omega
    refine ⟨x.toNat, by simp; omega, ?_⟩
    constructor
    · intro h
      rw [isRep_iff]
      intro b hb
      cases hbb : both n es a b with
      | false => rfl
      | true =>
        have := hle b (cls_mem.2 ⟨by omega, hbb⟩)
        omega
    · intro h
      have h1 := hle a hm
      rcases Nat.lt_or_ge x.toNat a with h2 | h2
      · have := isRep_iff.1 h x.toNat h2
        rw [hx.2] at this; cases this
      · omega
end Go.Fx.Gr
namespace Go.Fx
open Go.Proofs Gr
set_option maxRecDepth 100000

theorem dist_dec {n : Nat} {es : Es} (hes : inR n es) {a b : Int} (ha : 0 ≤ a ∧ a < n) : decide (0 ≤ dist n es a b) = within es n a b := by
  rw [Bool.eq_iff_iff, decide_eq_true_eq]; exact dist_nonneg hes ha

set_option maxHeartbeats 1000000 in
theorem ct97 (n : Nat) (hn : n ≤ 64) (es : Es) (hes : inR n es) (T : List (List Int)) (hT : IsTab n es T) : Ct Try.prog 97 [.one (table T)] (.row (tableR (compL n es))) := by
  refine ct_of tyAll Try.func97 (by decide) rfl ?_
  obtain ⟨hTl, hTr⟩ := hT
  have get : ∀ v, v < n → ∃ row, T[v]? = some row ∧ row.length = n ∧ ∀ b, b < n → row[b]? = some (dist n es (v : Int) (b : Int)) := fun v hv => by
    have h := hTr v (by omega)
    exact ⟨T[v], List.getElem?_eq_getElem (by omega), h.1, h.2⟩
  conv => whnf
  refine ⟨Nat, fun a => a ≤ n, fun a => ⟨(sk 0 (.c (table T) :: (sk 2 (W 100 0 :: (sk 0 (I a :: (sk 46 []))))))), [], [(100, (0, tableR ((reps n es a).map (cls n es))))]⟩, fun a => n - a, 0, by omega, ?_, fun a ha => ?_⟩
  · repeat' (first | exact trivial | exact rfl | refine And.intro ?_ ?_)
  have ha : a ≤ n := ha
  conv => whnf
  intro _
  conv => whnf
  refine acond_split (fun h1 => ?_) (fun h1 => ?_)
  · have h1 := dec h1
    conv => whnf
    have hal : a < n := by omega
    obtain ⟨rowa, hTa, hral, hra⟩ := get a hal
    refine ⟨Nat, fun b => b ≤ n, fun b => ⟨(sk 0 (.c (table T) :: (sk 2 (W 100 0 :: (sk 0 (I a :: (sk 0 (W 200 0 :: (sk 0 (I b :: (sk 44 []))))))))))), [], [(100, (0, tableR ((reps n es a).map (cls n es)))), (200, (0, intsR (clsP n es a b)))]⟩, fun b => n - b, 0, by omega, ?_, fun b hb => ?_⟩
    · repeat' (first | exact trivial | exact rfl | refine And.intro ?_ ?_)
    have hb : b ≤ n := hb
    conv => whnf
    intro _
    conv => whnf
    refine acond_split (fun h2 => ?_) (fun h2 => ?_)
    · have h2 := dec h2
      conv => whnf
      have hbl : b < n := by omega
      obtain ⟨rowb, hTb, hrbl, hrb⟩ := get b hbl
      have hsu := clsP_succ n es a b
      have hcl := clsP_length n es a b
      have hboth : both n es a b = (decide (0 ≤ dist n es (a : Int) (b : Int)) && decide (0 ≤ dist n es (b : Int) (a : Int))) := by
        rw [dist_dec hes (by omega), dist_dec hes (by omega)]; rfl
      refine ⟨rowa, by omega, hTa, ?_⟩
      conv => whnf
      refine ⟨dist n es (a : Int) (b : Int), by omega, hra b hbl, ?_⟩
      conv => whnf
      refine acond_split (fun h3 => ?_) (fun h3 => ?_)
      · rw [show decide (0 ≤ dist n es (a : Int) (b : Int)) = true from h3, Bool.true_and] at hboth
        conv => whnf
        refine ⟨rowb, by omega, hTb, ?_⟩
        conv => whnf
        refine ⟨dist n es (b : Int) (a : Int), by omega, hrb a hal, ?_⟩
        conv => whnf
        refine acond_split (fun h4 => ?_) (fun h4 => ?_)
        · rw [show decide (0 ≤ dist n es (b : Int) (a : Int)) = true from h4] at hboth
          rw [if_pos hboth] at hsu
          conv => whnf
          refine ⟨Int, fun n _ => i64 n, [(b : Int)], rfl, by decide, rfl, ?_⟩
          conv => whnf
          refine ⟨[(b : Int)], rfl, by simp; omega, by simp; omega, ?_⟩
          conv => whnf
          refine ⟨_, wi _ (by omega) (by omega), ?_⟩
          conv => whnf
          refine ⟨b + 1, by show b + 1 ≤ n; omega, by show n - (b + 1) < n - b; omega, ?_⟩
          repeat' (first | exact trivial | exact rfl | refine And.intro ?_ ?_)
          show intsR (clsP n es a b ++ [(b : Int)]) = intsR (clsP n es a (b + 1))
          rw [hsu]
        · rw [show decide (0 ≤ dist n es (b : Int) (a : Int)) = false from h4] at hboth
          rw [if_neg (by rw [hboth]; simp), List.append_nil] at hsu
          conv => whnf
          refine ⟨_, wi _ (by omega) (by omega), ?_⟩
          conv => whnf
          refine ⟨b + 1, by show b + 1 ≤ n; omega, by show n - (b + 1) < n - b; omega, ?_⟩
          repeat' (first | exact trivial | exact rfl | refine And.intro ?_ ?_)
          show intsR (clsP n es a b) = intsR (clsP n es a (b + 1))
          rw [hsu]
      · rw [show decide (0 ≤ dist n es (a : Int) (b : Int)) = false from h3, Bool.false_and] at hboth
        rw [if_neg (by rw [hboth]; simp), List.append_nil] at hsu
        conv => whnf
        refine ⟨_, wi _ (by omega) (by omega), ?_⟩
        conv => whnf
        refine ⟨b + 1, by show b + 1 ≤ n; omega, by show n - (b + 1) < n - b; omega, ?_⟩
        repeat' (first | exact trivial | exact rfl | refine And.intro ?_ ?_)
        show intsR (clsP n es a b) = intsR (clsP n es a (b + 1))
        rw [hsu]
    · have h2 := ndec h2
      conv => whnf
      have hbe : b = n := by omega
      subst hbe
      rw [clsP_all]
      obtain ⟨h, hh, hrep⟩ := cls_head (es := es) hal
      obtain ⟨cl, hcl⟩ : ∃ cl, cl = cls b es a := ⟨_, rfl⟩
      rw [← hcl] at hh ⊢
      have hpos : 0 < cl.length := by
        cases cl with
        | nil => cases hh
        | cons => simp
      refine ⟨by omega, by show (0 : Int) < (cl.length : Int); omega, ?_⟩
      conv => whnf
      refine ⟨_, hh, ?_⟩
      conv => whnf
      refine acond_split (fun h3 => ?_) (fun h3 => ?_)
      · have h3 := dec h3
        conv => whnf
        have hr : isRep b es a = true := hrep.1 (by omega)
        have hrl := reps_le b es a
        refine ⟨List Int, fun r _ => ints r, [cl], rfl, by decide, rfl, ?_⟩
        conv => whnf
        refine ⟨[cl], rfl, by simp; omega, by simp; omega, ?_⟩
        conv => whnf
        refine ⟨_, wi _ (by omega) (by omega), ?_⟩
        conv => whnf
        refine ⟨a + 1, by show a + 1 ≤ b; omega, by show b - (a + 1) < b - a; omega, ?_⟩
        repeat' (first | exact trivial | exact rfl | refine And.intro ?_ ?_)
        show tableR ((reps b es a).map (cls b es) ++ [cl]) = tableR _
        rw [comp_rep hr, hcl]
      · have h3 := ndec h3
        conv => whnf
        have hr : isRep b es a = false := by
          rw [← Bool.not_eq_true]
          intro h4
          have := hrep.2 h4
          omega
        refine ⟨_, wi _ (by omega) (by omega), ?_⟩
        conv => whnf
        refine ⟨a + 1, by show a + 1 ≤ b; omega, by show b - (a + 1) < b - a; omega, ?_⟩
        repeat' (first | exact trivial | exact rfl | refine And.intro ?_ ?_)
        show tableR _ = tableR _
        rw [comp_skip hr]
  · have h1 := ndec h1
    conv => whnf
    have hae : a = n := by omega
    subst hae
    repeat' (first | exact trivial | exact rfl | refine And.intro ?_ ?_)

theorem ct50 (n : Nat) (hn : n ≤ 64) (es : Es) (hes : inR n es) (hl : es.length ≤ 1000000) : Ct Try.prog 50 [rA n es] (.row (tableR (compL n es))) := by
  refine ct_of tyAll Try.func50 (by decide) rfl ?_
  obtain ⟨T, hT⟩ : ∃ T, T = tableL n es := ⟨_, rfl⟩
  have hI : IsTab n es T := by rw [hT]; exact tableL_is n es
  have h79 := ct79 n hn es hes hl
  rw [← hT] at h79
  conv => whnf
  refine ⟨_, h79, ?_⟩
  conv => whnf
  refine .inr (.inl ?_)
  conv => whnf
  refine ⟨_, ct97 n hn es hes T hI, ?_⟩
  conv => whnf
  repeat' (first | exact trivial | exact rfl | refine And.intro ?_ ?_)
end Go.Fx

namespace Go.Fx
open Go.Proofs Gr
set_option maxRecDepth 100000

/-- The index is set for all nodes of the first components, and some of the next one. -/
def OfI (n : Nat) (es : Es) (i k : Nat) (f : Nat → Int) : Prop :=
  ∀ j, j < n → ((∃ i', ∃ h : i' < (compL n es).length, i' < i ∧ (j : Int) ∈ (compL n es)[i']) ∨ (∃ h : i < (compL n es).length, (j : Int) ∈ ((compL n es)[i]).take k)) → f j = ofI n es j
theorem ofI_all {n : Nat} {es : Es} (hes : inR n es) {f : Nat → Int} (h : OfI n es (compL n es).length 0 f) : tb n f = ofL n es := by
  refine List.map_congr_left fun j hj => ?_
  have hj := List.mem_range.1 hj
  have hc := cls_comp hes hj
  obtain ⟨i, hi, he⟩ := List.getElem_of_mem hc
  refine h j hj (.inl ⟨i, hi, hi, ?_⟩)
  rw [he]
  exact cls_mem.2 ⟨by omega, mut_refl n es j⟩
theorem ofI_next {n : Nat} {es : Es} {i : Nat} {f : Nat → Int} (hi : i < (compL n es).length) (h : OfI n es i (compL n es)[i].length f) : OfI n es (i + 1) 0 f := by
  intro j hj h1
  rcases h1 with ⟨i', h2, h3, h4⟩ | ⟨_, h2⟩
  · rcases Nat.eq_or_lt_of_le (Nat.le_of_lt_succ h3) with e | e
    · subst e
      exact h j hj (.inr ⟨hi, by rw [List.take_of_length_le (Nat.le_refl _)]; exact h4⟩)
    · exact h j hj (.inl ⟨i', h2, e, h4⟩)
  · simp at h2
theorem comp_mem_in {n : Nat} {es : Es} {i : Nat} (hi : i < (compL n es).length) {x : Int} (hx : x ∈ (compL n es)[i]) : 0 ≤ x ∧ x < (n : Int) := by
  rw [compL_get hi] at hx
  exact (cls_mem.1 hx).1
theorem ofI_step {n : Nat} {es : Es} (hes : inR n es) {i k : Nat} {f : Nat → Int} (hi : i < (compL n es).length) (hk : k < (compL n es)[i].length) (h : OfI n es i k f) :
    OfI n es i (k + 1) (fun b => if b = ((compL n es)[i][k]).toNat then (i : Int) else f b) := by
  have hr := comp_mem_in hi (List.getElem_mem hk)
  intro j hj h1
  simp only
  by_cases e : j = ((compL n es)[i][k]).toNat
  · rw [if_pos e]
    have e2 : (j : Int) = (compL n es)[i][k] := by omega
    symm
    rw [of_iff hes (by omega) hi, e2]
    exact List.getElem_mem hk
  · rw [if_neg e]
    refine h j hj ?_
    rcases h1 with h1 | ⟨h2, h3⟩
    · exact .inl h1
    · refine .inr ⟨h2, ?_⟩
      rw [List.take_succ_eq_append_getElem hk] at h3
      rcases List.mem_append.1 h3 with h3 | h3
      · exact h3
      · have : (j : Int) = (compL n es)[i][k] := by simpa using h3
        omega

set_option maxHeartbeats 1000000 in
theorem ct48 (n : Nat) (hn : n ≤ 64) (es : Es) (hes : inR n es) (hl : es.length ≤ 1000000) :
    Ct Try.prog 48 [rA n es] (.tup [.agg [.c (i64 (compL n es).length), .row 0 (pairsR (condL n es))], .one (.row 1 (intsR (ofL n es)))]) := by
  refine ct_of tyAll Try.func48 (by decide) rfl ?_
  have hcl := compL_length n es
  conv => whnf
  refine ⟨_, ct50 n hn es hes hl, ?_⟩
  conv => whnf
  refine ⟨rfl, by omega, by omega, by omega, by omega, Int, fun n _ => i64 n, 0, zok1 (fun _ _ => rfl), ?_⟩
  conv => whnf
  refine ⟨Nat × (Nat → Int), fun i => i.1 ≤ (compL n es).length ∧ OfI n es i.1 0 i.2, fun i => ⟨(sk 1 (.p (.one (.lptr 1 0)) :: (sk 0 (.p (.one (.lptr 2 0)) :: (sk 1 (W 15 0 :: (sk 0 (W 18 0 :: (sk 0 (I i.1 :: (sk 80 []))))))))))), [(1, [.c (i64 n), .c (prs es)]), (2, [.c (i64 0), .c .nil])],
    [(15, (0, tableR (compL n es))), (18, (0, intsR (tb n i.2)))]⟩, fun i => (compL n es).length - i.1, (0, fun _ => 0), ⟨by simp, fun j hj h => ?_⟩, ?_, fun i hi => ?_⟩
  · rcases h with ⟨i', _, h, _⟩ | ⟨_, h⟩
    · simp only at h; omega
    · simp at h
  · repeat' (first | exact trivial | exact rfl | refine And.intro ?_ ?_)
    show intsR (List.replicate _ 0) = intsR _
    simp [tb, List.map_const']
  obtain ⟨i, f⟩ := i
  obtain ⟨hi, hf⟩ := hi
  simp only at hi hf
  conv => whnf
  intro _
  conv => whnf
  refine acond_split (fun h1 => ?_) (fun h1 => ?_)
  · have h1 := dec h1
    conv => whnf
    have hil : i < (compL n es).length := h1 |> fun h => by have h : (i : Int) < (compL n es).length := h; omega
    have hst := fun (k : Nat) (f : Nat → Int) (hk : k < (compL n es)[i].length) (h : OfI n es i k f) => ofI_step hes hil hk h
    have hnx := fun (f : Nat → Int) (h : OfI n es i (compL n es)[i].length f) => ofI_next hil h
    have hin := fun (x : Int) (h : x ∈ (compL n es)[i]) => comp_mem_in hil h
    have hget : (compL n es)[i]? = some (compL n es)[i] := List.getElem?_eq_getElem hil
    obtain ⟨c, hc⟩ : ∃ c, c = (compL n es)[i] := ⟨_, rfl⟩
    simp only [← hc] at hst hnx hin hget
    refine ⟨Nat × (Nat → Int), fun k => k.1 ≤ c.length ∧ OfI n es i k.1 k.2, fun k => ⟨(sk 1 (.p (.one (.lptr 1 0)) :: (sk 0 (.p (.one (.lptr 2 0)) :: (sk 1 (W 15 0 :: (sk 0 (W 18 0 :: (sk 0 (I i :: (sk 0 (I k.1 :: (sk 79 []))))))))))))), [(1, [.c (i64 n), .c (prs es)]), (2, [.c (i64 0), .c .nil])],
      [(15, (0, tableR (compL n es))), (18, (0, intsR (tb n k.2)))]⟩, fun k => c.length - k.1, (0, f), ⟨by simp, hf⟩, ?_, fun k hk => ?_⟩
    · repeat' (first | exact trivial | exact rfl | refine And.intro ?_ ?_)
    clear hf
    obtain ⟨k, f⟩ := k
    obtain ⟨hk, hf⟩ := hk
    simp only at hk hf
    conv => whnf
    refine ⟨by omega, by show (i : Int) < ((compL n es).length : Int); omega, ?_⟩
    conv => whnf
    refine ⟨_, hget, ?_⟩
    conv => whnf
    intro _
    conv => whnf
    refine acond_split (fun h2 => ?_) (fun h2 => ?_)
    · have h2 := dec h2
      conv => whnf
      have hkl : k < c.length := h2 |> fun h => by have h : (k : Int) < c.length := h; omega
      have hr := hin _ (List.getElem_mem hkl)
      refine ⟨by omega, by show (i : Int) < ((compL n es).length : Int); omega, ?_⟩
      conv => whnf
      refine ⟨_, hget, ?_⟩
      conv => whnf
      refine ⟨c[k], by omega, List.getElem?_eq_getElem hkl, ?_⟩
      conv => whnf
      refine ⟨by omega, by simp; omega, ?_⟩
      simp only [addObj, setFr, forceA, setK, forceS, forceL]
      unfold seqops
      simp only [wguard, wstep, opd, fget, ownsA, relAll]
      unfold wstore
      simp only [opd, fget, lget]
      conv => whnf
      refine ⟨_, (i : Int), tb_get (by omega), rfl, ?_⟩
      conv => whnf
      refine ⟨_, wi _ (by omega) (by omega), ?_⟩
      conv => whnf
      refine ⟨(k + 1, fun b => if b = (c[k]).toNat then (i : Int) else f b), ⟨by simp only; omega, hst k f hkl hf⟩, by show c.length - (k + 1) < c.length - k; omega, ?_⟩
      repeat' (first | exact trivial | exact rfl | refine And.intro ?_ ?_)
      show intsR (List.set _ _ _) = intsR _
      rw [map_set]
    · have h2 := ndec h2
      conv => whnf
      have hkl : k = c.length := h2 |> fun h => by have h : ¬ (k : Int) < c.length := h; omega
      subst hkl
      refine ⟨_, wi _ (by omega) (by omega), ?_⟩
      conv => whnf
      refine ⟨(i + 1, f), ⟨by simp only; omega, hnx f hf⟩, by show (compL n es).length - (i + 1) < (compL n es).length - i; omega, ?_⟩
      repeat' (first | exact trivial | exact rfl | refine And.intro ?_ ?_)
  · have h1 := ndec h1
    conv => whnf
    have hie : i = (compL n es).length := h1 |> fun h => by have h : ¬ (i : Int) < (compL n es).length := h; omega
    subst hie
    rw [ofI_all hes hf]
    clear hf h1
    obtain ⟨m, hm⟩ : ∃ m, m = (compL n es).length := ⟨_, rfl⟩
    refine ⟨Nat, fun k => k ≤ es.length, fun k => ⟨(sk 1 (.p (.one (.lptr 1 0)) :: (sk 0 (.p (.one (.lptr 2 0)) :: (sk 1 (W 15 0 :: (sk 0 (W 18 0 :: (sk 2 (W 100 0 :: (sk 0 (I k :: (sk 77 []))))))))))))), [(1, [.c (i64 n), .c (prs es)]), (2, [.c (i64 0), .c .nil])],
      [(15, (0, tableR (compL n es))), (18, (0, intsR (ofL n es))), (100, (0, pairsR (condF (ofI n es) (es.take k))))]⟩, fun k => es.length - k, 0, by omega, ?_, fun k hk => ?_⟩
    · repeat' (first | exact trivial | exact rfl | refine And.intro ?_ ?_)
    have hk : k ≤ es.length := hk
    conv => whnf
    intro _
    conv => whnf
    have hol := ofL_length n es
    refine acond_split (fun h1 => ?_) (fun h1 => ?_)
    · have h1 := dec h1
      conv => whnf
      have hlt : k < es.length := h1 |> fun h => by have h : (k : Int) < es.length := h; omega
      obtain ⟨⟨a0, a1⟩, b0, b1⟩ := hes es[k] (List.getElem_mem hlt)
      refine draw_intro tyAll mixed 20 (by kernel_rfl) ?_
      conv => whnf
      refine ⟨es[k], by omega, List.getElem?_eq_getElem hlt, ?_⟩
      conv => whnf
      refine ⟨by omega, by omega, ?_⟩
      conv => whnf
      refine ⟨a0, by show es[k].1 < ((ofL n es).length : Int); omega, ?_⟩
      conv => whnf
      refine ⟨_, ofL_get a0 a1, ?_⟩
      conv => whnf
      refine ⟨es[k], by omega, List.getElem?_eq_getElem hlt, ?_⟩
      conv => whnf
      refine ⟨by omega, by omega, ?_⟩
      conv => whnf
      refine ⟨b0, by show es[k].2 < ((ofL n es).length : Int); omega, ?_⟩
      conv => whnf
      refine ⟨_, ofL_get b0 b1, ?_⟩
      conv => whnf
      have hcf := condF_length (ofI n es) (es.take k)
      have htl : (es.take k).length ≤ es.length := by simp; omega
      have hsu := condF_succ (ofI n es) es k hlt
      refine acond_split (fun h2 => ?_) (fun h2 => ?_)
      · have h2 : ofI n es es[k].1 ≠ ofI n es es[k].2 := of_decide_eq_true h2
        rw [if_neg h2] at hsu
        conv => whnf
        refine ⟨Int × Int, eC, [(ofI n es es[k].1, ofI n es es[k].2)], rfl, by decide, rfl, ?_⟩
        conv => whnf
        refine ⟨[(ofI n es es[k].1, ofI n es es[k].2)], rfl, by simp; omega, by simp; omega, ?_⟩
        conv => whnf
        refine ⟨_, wi _ (by omega) (by omega), ?_⟩
        conv => whnf
        refine ⟨k + 1, by show k + 1 ≤ es.length; omega, by show es.length - (k + 1) < es.length - k; omega, ?_⟩
        repeat' (first | exact trivial | exact rfl | refine And.intro ?_ ?_)
        show pairsR (condF (ofI n es) (es.take k) ++ [(ofI n es es[k].1, ofI n es es[k].2)]) = pairsR (condF (ofI n es) (es.take (k + 1)))
        rw [hsu]
      · have h2 : ofI n es es[k].1 = ofI n es es[k].2 := Decidable.not_not.1 (of_decide_eq_false h2)
        rw [if_pos h2, List.append_nil] at hsu
        conv => whnf
        refine ⟨_, wi _ (by omega) (by omega), ?_⟩
        conv => whnf
        refine ⟨k + 1, by show k + 1 ≤ es.length; omega, by show es.length - (k + 1) < es.length - k; omega, ?_⟩
        repeat' (first | exact trivial | exact rfl | refine And.intro ?_ ?_)
        show pairsR (condF (ofI n es) (es.take k)) = pairsR (condF (ofI n es) (es.take (k + 1)))
        rw [hsu]
    · have h1 := ndec h1
      conv => whnf
      have hke : k = es.length := h1 |> fun h => by have h : ¬ (k : Int) < es.length := h; omega
      subst hke
      rw [List.take_length]
      have hin : insideB (compL n es).length (condE n es) = true := (insideB_iff _ _).2 (condE_in hes)
      have h18 := ct18 (compL n es).length (condE n es)
      rw [rmakeRv, if_neg (by unfold makeBad; rw [decide_eq_true_iff, hin]; simp; omega), Int.toNat_natCast] at h18
      intro _
      conv => whnf
      refine .inl ?_
      conv => whnf
      refine ⟨_, h18, .inl (flat_rmk _ _), ?_⟩
      conv => whnf
      repeat' (first | exact trivial | exact rfl | refine And.intro ?_ ?_)
end Go.Fx

namespace Go.Fx
open Go.Proofs Gr
set_option maxRecDepth 100000

def sinkT (n : Nat) (es : Es) (k : Nat) : List (List Int) := ((compL n es).take k).filter (closedB es)
theorem sinkT_succ (n : Nat) (es : Es) (k : Nat) (h : k < (compL n es).length) : sinkT n es (k + 1) = sinkT n es k ++ if closedB es (compL n es)[k] = true then [(compL n es)[k]] else [] := by
  unfold sinkT
  rw [List.take_succ_eq_append_getElem h, List.filter_append]
  congr 1
  split <;> rename_i h1 <;> simp [h1]
theorem sinkT_length (n : Nat) (es : Es) (k : Nat) : (sinkT n es k).length ≤ k := by
  unfold sinkT
  exact Nat.le_trans (List.length_filter_le _ _) (by simp; omega)
theorem comp_closed {n : Nat} {es : Es} (hes : inR n es) {i : Nat} (hi : i < (compL n es).length) : decide ((reachI n es (compL n es)[i]).length = (compL n es)[i].length) = closedB es (compL n es)[i] := by
  have hasc : ((compL n es)[i]).Pairwise (· < ·) := by rw [compL_get hi]; exact cls_asc n es _
  have := closed_len hes (fun a ha => comp_mem_in hi ha) hasc
  rw [Bool.eq_iff_iff, decide_eq_true_eq]
  exact this

theorem ct51 (n : Nat) (hn : n ≤ 64) (es : Es) (hes : inR n es) (hl : es.length ≤ 1000000) : Ct Try.prog 51 [rA n es] (.row (tableR (sinksL n es))) := by
  refine ct_of tyAll Try.func51 (by decide) rfl ?_
  have hcl := compL_length n es
  conv => whnf
  refine ⟨_, ct50 n hn es hes hl, ?_⟩
  conv => whnf
  refine ⟨Nat, fun k => k ≤ (compL n es).length, fun k => ⟨(sk 1 (.p (.one (.lptr 1 0)) :: (sk 1 (W 7 0 :: (sk 0 (W 100 0 :: (sk 0 (I k :: (sk 22 []))))))))), [(1, [.c (i64 n), .c (prs es)])], [(7, (0, tableR (compL n es))), (100, (0, tableR (sinkT n es k)))]⟩, fun k => (compL n es).length - k, 0, by omega, ?_, fun k hk => ?_⟩
  · repeat' (first | exact trivial | exact rfl | refine And.intro ?_ ?_)
  have hk : k ≤ (compL n es).length := hk
  conv => whnf
  intro _
  conv => whnf
  refine acond_split (fun h1 => ?_) (fun h1 => ?_)
  · have h1 := dec h1
    conv => whnf
    have hlt : k < (compL n es).length := h1 |> fun h => by have h : (k : Int) < (compL n es).length := h; omega
    have hsu := sinkT_succ n es k hlt
    have hsl := sinkT_length n es k
    have h65 := ct65 n hn es hes hl (compL n es)[k] (fun a ha => comp_mem_in hlt ha)
    rw [comp_closed hes hlt] at h65
    have hget : (compL n es)[k]? = some (compL n es)[k] := List.getElem?_eq_getElem hlt
    obtain ⟨c, hc⟩ : ∃ c, c = (compL n es)[k] := ⟨_, rfl⟩
    rw [← hc] at hsu h65 hget
    clear hc
    refine draw_intro tyAll mixed 6 (by kernel_rfl) ?_
    conv => whnf
    refine ⟨by omega, by show (k : Int) < ((compL n es).length : Int); omega, ?_⟩
    conv => whnf
    refine ⟨_, hget, ?_⟩
    conv => whnf
    refine ⟨_, h65, ?_⟩
    conv => whnf
    refine acond_split (fun h2 => ?_) (fun h2 => ?_)
    · rw [if_pos h2] at hsu
      conv => whnf
      refine ⟨by omega, by show (k : Int) < ((compL n es).length : Int); omega, ?_⟩
      conv => whnf
      refine ⟨_, hget, ?_⟩
      conv => whnf
      refine ⟨List Int, fun r _ => ints r, [c], rfl, by decide, rfl, ?_⟩
      conv => whnf
      refine ⟨[c], rfl, by simp; omega, by simp; omega, ?_⟩
      conv => whnf
      refine ⟨_, wi _ (by omega) (by omega), ?_⟩
      conv => whnf
      refine ⟨k + 1, by show k + 1 ≤ (compL n es).length; omega, by show (compL n es).length - (k + 1) < (compL n es).length - k; omega, ?_⟩
      repeat' (first | exact trivial | exact rfl | refine And.intro ?_ ?_)
      show tableR (sinkT n es k ++ [c]) = tableR (sinkT n es (k + 1))
      rw [hsu]
    · rw [if_neg (by rw [h2]; simp), List.append_nil] at hsu
      conv => whnf
      refine ⟨_, wi _ (by omega) (by omega), ?_⟩
      conv => whnf
      refine ⟨k + 1, by show k + 1 ≤ (compL n es).length; omega, by show (compL n es).length - (k + 1) < (compL n es).length - k; omega, ?_⟩
      repeat' (first | exact trivial | exact rfl | refine And.intro ?_ ?_)
      show tableR (sinkT n es k) = tableR (sinkT n es (k + 1))
      rw [hsu]
  · have h1 := ndec h1
    conv => whnf
    have hke : k = (compL n es).length := h1 |> fun h => by have h : ¬ (k : Int) < (compL n es).length := h; omega
    subst hke
    repeat' (first | exact trivial | exact rfl | refine And.intro ?_ ?_)
    show tableR (sinksL n es) = tableR (sinkT n es _)
    rw [sinks_eq hes, sinkT, List.take_of_length_le (Nat.le_refl _)]
end Go.Fx

namespace Go.Fx
open Go.Proofs Go.RowKit Go.Sort

set_option maxRecDepth 100000 in
set_option maxHeartbeats 1000000 in
theorem grow0 (W : World) : Calls Try.prog 109 #[.slice none 0 0, .int .i64 0] W fun e w' => e = .returned (.slice none 0 0) ∧ w' = W := by
  go_enter Try.func109, Try.ntmps109
  go_wp2
  go_ret
  simp

set_option maxRecDepth 100000 in
set_option maxHeartbeats 1000000 in
theorem growN (n : Nat) (hn : 0 < n) (hb : n * 16 ≤ 140737488355328) (W : World) : Calls Try.prog 109 #[.slice none 0 0, .int .i64 n] W fun e w' => ∃ cap cells, e = .returned (.slice (some ⟨W.heap.size, 0, none⟩) 0 cap) ∧ w' = W.drew.alloc (.cells cells 32) ∧ cells.size = cap * 2 ∧ cap ≤ maxLen := by
  obtain ⟨i, hi, hz, hs, hbt⟩ : ∃ i, Try.prog.info? 32 = some i ∧ i.zero = some (.agg #[.int .i64 0, .int .i64 0]) ∧ i.size = 2 ∧ i.bytes = 16 := by
    have h : (Try.prog.info? 32).map (fun i => (i.zero, i.size, i.bytes)) = some (some (.agg #[.int .i64 0, .int .i64 0]), 2, 16) := by kernel_rfl
    obtain ⟨i, h1, h2⟩ := Option.map_eq_some_iff.1 h
    simp only [Prod.mk.injEq] at h2
    exact ⟨i, h1, h2.1, h2.2.1, h2.2.2⟩
  have happ := Go.Lib.run_append_nil_zeros (P := Try.prog) W 22 3 22 32 i _ .i64 .i64 Try.underlying22 Try.underlying3 hi hz n hn (by omega) (by omega) (by rw [hbt]; omega)
  generalize hcap : grownCap W n 0 32 = cap2 at happ
  have hcapge : n ≤ cap2 := by rw [← hcap]; exact grownCap_ge W _ 0 32
  have hcaple : cap2 ≤ maxLen := by rw [← hcap]; exact grownCap_le_maxLen W _ 0 32 (by unfold maxLen; omega)
  generalize hZ : (Builtin.zeroCells (Value.agg #[.int .i64 0, .int .i64 0]).cells n ++ Builtin.zeroCells (Value.agg #[.int .i64 0, .int .i64 0]).cells (cap2 - n)) = Z at happ
  have hZs : Z.size = cap2 * 2 := by rw [← hZ]; simp [size_zeroCells, Value.cells]; omega
  clear hcap hZ
  go_enter Try.func109, Try.ntmps109
  go_wp2_with (at_builtin; refine Go.Lib.wpList_append_run _ rfl _ _ _ _ rfl _ _ rfl rfl _ _ happ ?_)
  go_ret
  exact ⟨cap2, Z, rfl, rfl, hZs, hcaple⟩

/-- A function that hands back a row. -/
theorem rvrep_row {base : Nat} {w : World} {X : Nat → Prop} {R : Row} {v : Value} (h : RowRel w (fun b => X b ∨ v.ownBlock = some b) base R v) : RvRep base w X (.row R) v := by
  have one : ∀ r R', lget (Rv.rows id (.row R)) r = some R' → r = 0 ∧ R' = R := fun r R' h => by
    have h : lget [(0, R)] r = some R' := h
    rw [lget_cons] at h
    split at h
    · rename_i e; cases h; exact ⟨e.symm, rfl⟩
    · simp [lget] at h
  refine ⟨fun _ => v, fun r R' hr => ?_, fun r r' R1 R2 b h1 h2 _ _ => by rw [(one r R1 h1).1, (one r' R2 h2).1], ?_⟩
  · obtain ⟨rfl, rfl⟩ := one r R' hr
    have e : (RX X (Rv.rows id (.row R')) fun _ => v) = fun b => X b ∨ v.ownBlock = some b := by
      funext b
      refine propext ⟨?_, ?_⟩
      · rintro (hx | ⟨r, R1, _, hb⟩)
        · exact .inl hx
        · exact .inr hb
      · rintro (hx | hb)
        · exact .inl hx
        · exact .inr ⟨0, R', hr, hb⟩
    rw [e]; exact h
  · refine ⟨0, R, ?_, Nat.le_refl _, fun _ => rfl⟩
    show Option.map (fun R => (0, R)) (lget [(0, R)] 0) = _
    simp [lget]

theorem ct109 (n : Nat) (hb : n * 16 ≤ 140737488355328) : Ct Try.prog 109 [.one .nil, .one (i64 n)] (.row (edgesR [])) := by
  refine ⟨enters_of Try.func109 (by kernel_rfl) rfl, fun w X vs hX hA => ?_⟩
  match vs, hA with
  | [a, b], ⟨h1, h2, _⟩ =>
    have h1 : a = .slice none 0 0 := h1
    have h2 : b = .int .i64 n := h2
    subst h1 h2
    rcases Nat.eq_zero_or_pos n with h0 | h0
    · subst h0
      refine (grow0 w).mono fun e w' h => ?_
      obtain ⟨he, rfl⟩ := h
      exact ⟨Below.refl _ _, _, he, rvrep_row (.inl ⟨rfl, rfl⟩)⟩
    · refine (growN n h0 hb w).mono fun e w' h => ?_
      obtain ⟨cap, cells, he, rfl, hs, hc⟩ := h
      refine ⟨((Below.refl _ w).drew).alloc (by simp) _, _, he, rvrep_row (.inr ⟨w.heap.size, 0, cap, cells, rfl, Nat.le_refl _, heap_alloc w _, Nat.zero_le _, hc, ?_, fun j x hj => by simp at hj⟩)⟩
      show 0 + cap * 2 ≤ cells.size
      omega
end Go.Fx

namespace Go.Fx
open Go.Proofs Gr
set_option maxRecDepth 100000

abbrev etable (l : List Es) : CVal := .sl Es 1 (fun es _ => edges es) l
abbrev etableR (l : List Es) : Row := ⟨Es, 1, fun es _ => edges es, 22, l⟩
theorem flat_succ {α : Type} (l : List (List α)) (k : Nat) (h : k < l.length) : (l.take (k + 1)).flatten = (l.take k).flatten ++ l[k] := by
  rw [List.take_succ_eq_append_getElem h, List.flatten_append]; simp
theorem flat_le {α : Type} (l : List (List α)) (k : Nat) : (l.take k).flatten.length ≤ l.flatten.length := by
  conv => rhs; rw [← List.take_append_drop k l, List.flatten_append]
  simp

theorem ct94 (l : List Es) (hb : l.flatten.length * 16 ≤ 140737488355328) : Ct Try.prog 94 [.one (etable l)] (.row (edgesR l.flatten)) := by
  refine ct_of tyAll Try.func94 (by decide) rfl ?_
  conv => whnf
  intro hlen
  conv => whnf
  refine ⟨Nat, fun k => k ≤ l.length, fun k => ⟨(sk 0 (.c (etable l) :: (sk 2 (I ((l.take k).flatten.length : Nat) :: (sk 5 (.c (etable l) :: (sk 0 (I l.length :: (sk 0 (I k :: (sk 24 []))))))))))), [], []⟩, fun k => l.length - k, 0, by omega, ?_, fun k hk => ?_⟩
  · repeat' (first | exact trivial | exact rfl | refine And.intro ?_ ?_)
  have hk : k ≤ l.length := hk
  conv => whnf
  refine acond_split (fun h1 => ?_) (fun h1 => ?_)
  · have h1 := dec h1
    conv => whnf
    have hlt : k < l.length := by omega
    have hs := flat_succ l k hlt
    have hle := flat_le l (k + 1)
    have hsl : (l.take (k + 1)).flatten.length = (l.take k).flatten.length + l[k].length := by rw [hs, List.length_append]
    refine ⟨l[k], by omega, List.getElem?_eq_getElem hlt, ?_⟩
    conv => whnf
    intro hl2
    conv => whnf
    refine ⟨((l.take (k + 1)).flatten.length : Nat), by show IntKind.i64.wrap (((l.take k).flatten.length : Int) + (l[k].length : Int)) = _; rw [wi _ (by omega) (by omega)]; omega, ?_⟩
    conv => whnf
    refine ⟨_, wi _ (by omega) (by omega), ?_⟩
    conv => whnf
    refine ⟨k + 1, by show k + 1 ≤ l.length; omega, by show l.length - (k + 1) < l.length - k; omega, ?_⟩
    repeat' (first | exact trivial | exact rfl | refine And.intro ?_ ?_)
  have h1 := ndec h1
  conv => whnf
  have hk' : k = l.length := by omega
  subst hk'
  rw [List.take_length]
  refine ⟨_, ct109 l.flatten.length hb, ?_⟩
  conv => whnf
  intro hlen2
  conv => whnf
  refine ⟨Nat, fun k => k ≤ l.length, fun k => ⟨(sk 0 (.c (etable l) :: (sk 5 (W 24 0 :: (sk 18 (.c (etable l) :: (sk 0 (I l.length :: (sk 0 (I k :: (sk 8 []))))))))))), [], [(24, (0, edgesR (l.take k).flatten))]⟩, fun k => l.length - k, 0, by omega, ?_, fun k hk => ?_⟩
  · repeat' (first | exact trivial | exact rfl | refine And.intro ?_ ?_)
  have hk : k ≤ l.length := hk
  conv => whnf
  refine acond_split (fun h2 => ?_) (fun h2 => ?_)
  · have h2 := dec h2
    conv => whnf
    have hlt : k < l.length := by omega
    have hs := flat_succ l k hlt
    have hle := flat_le l (k + 1)
    have hsl : (l.take (k + 1)).flatten.length = (l.take k).flatten.length + l[k].length := by rw [hs, List.length_append]
    refine ⟨l[k], by omega, List.getElem?_eq_getElem hlt, ?_⟩
    conv => whnf
    refine ⟨l[k], rfl, by simp only; omega, by simp only; omega, ?_⟩
    conv => whnf
    refine ⟨_, wi _ (by omega) (by omega), ?_⟩
    conv => whnf
    refine ⟨k + 1, by show k + 1 ≤ l.length; omega, by show l.length - (k + 1) < l.length - k; omega, ?_⟩
    repeat' (first | exact trivial | exact rfl | refine And.intro ?_ ?_)
    show edgesR ((l.take k).flatten ++ l[k]) = edgesR (l.take (k + 1)).flatten
    rw [hs]
  · have h2 := ndec h2
    conv => whnf
    have hk' : k = l.length := by omega
    subst hk'
    rw [List.take_length]
    repeat' (first | exact trivial | exact rfl | refine And.intro ?_ ?_)

def condRv (n : Int) (es : Es) : Rv :=
  if checkG n es = 0 then .tup [.agg [.c (i64 (compL n.toNat es).length), .row 0 (edgesR (condL n.toNat es))], .one (.row 1 (intsR (ofL n.toNat es))), .one (.c (i64 0))]
  else .tup [.agg [.c (i64 0), .c .nil], .one (.c .nil), .one (.c (i64 (checkG n es)))]

theorem ct46 (n : Int) (es : Es) : Ct Try.prog 46 [gA n es] (condRv n es) := by
  refine ct_of tyAll Try.func46 (by decide) rfl ?_
  conv => whnf
  refine ⟨_, ct21 n es, ?_⟩
  conv => whnf
  refine acond_split (fun h1 => ?_) (fun h1 => ?_)
  · have h1 := dec h1
    conv => whnf
    rw [condRv, if_neg h1]
    conv => whnf
    repeat' (first | exact trivial | exact rfl | refine And.intro ?_ ?_)
  have h1 : checkG n es = 0 := Decidable.not_not.1 (of_decide_eq_false h1)
  rw [condRv, if_pos h1, h1]
  obtain ⟨N, rfl, hN, hes, hl, hs⟩ := check_ok h1
  rw [Int.toNat_natCast]
  conv => whnf
  refine ⟨_, ct90 N hN es hes (by omega), ?_⟩
  conv => whnf
  repeat' (first | exact trivial | exact rfl | refine And.intro ?_ ?_)

/-- A graph whose edges are a row of its own is also a graph that is read. -/
theorem ct_readA {P : Program} {g : Nat} {args : List Av} {x : CVal} {R : Row} (h : Ct P g args (.p (.agg [.c x, .row 0 R]))) : Ct P g args (.p (.agg [.c x, .c (.sl R.α R.k R.cell R.xs)])) := by
  refine ⟨h.1, fun w X vs hX hA => (h.2 w X vs hX hA).mono ?_⟩
  rintro e w' ⟨hb, v, he, vo, hrow, hsep, hval⟩
  refine ⟨hb, v, he, fun _ => .slice none 0 0, fun r R' hr => (by cases hr), fun r r' R1 R2 b h1 => (by cases h1), ?_⟩
  obtain ⟨vs2, hvs, hall⟩ := hval
  match vs2, hall with
  | [v0, v1], ⟨hx, hr1, _⟩ =>
    obtain ⟨ver, R1, h1, _, h3⟩ := hr1
    have h1 : Option.map (fun R => (0, R)) (lget [(0, R)] 0) = some (ver, R1) := h1
    have e0 : ver = 0 ∧ R1 = R := by
      simp [lget] at h1
      exact ⟨h1.1.symm, h1.2.symm⟩
    obtain ⟨rfl, rfl⟩ := e0
    have hv : v1 = vo 0 := h3 rfl
    subst hv
    have hr := hrow 0 R1 rfl
    have hX' : ∀ b, RX X (Rv.rows id (.p (.agg [.c x, .c (CVal.sl R1.α R1.k R1.cell R1.xs)]))) (fun x => Value.slice none 0 0) b → X b := by
      rintro b (hb | ⟨r, R2, h4, _⟩)
      · exact hb
      · cases h4
    refine ⟨[v0, vo 0], hvs, ?_, ?_, trivial⟩
    · have hx : Rep w' _ x v0 := hx
      exact Rep.sub (fun b hb => .inl (hX' b hb)) hx
    · show Rep w' _ (.sl R1.α R1.k R1.cell R1.xs) (vo 0)
      rcases hr with ⟨e1, e2⟩ | ⟨g, o, c, cur, e1, hg, hh, hc1, hc2, hc3, hc4⟩
      · rw [e1]
        exact ⟨none, 0, by rw [e2]; rfl, by rw [e2]; exact Nat.le_refl _, by rw [e2]; exact Nat.zero_le _, fun hne => absurd e2 hne⟩
      · rw [e1]
        refine ⟨_, c, rfl, hc1, Nat.le_trans hc1 hc2, fun _ => ⟨g, o, rfl, fun hx => ?_, ?_, fun j x hj i hi => ?_⟩⟩
        · have := hX g (hX' g hx); omega
        · rcases Nat.lt_or_ge g w'.heap.size with h | h
          · exact h
          · rw [Array.getElem?_eq_none h] at hh; cases hh
        · obtain ⟨u, hu, hru⟩ := hc4 j x hj i hi
          exact ⟨u, by rw [cell_of_row w' g _ cur R1.e (0, 0) hh]; exact hu, Rep.sub (fun b hb => .inl (hX' b hb)) hru⟩

theorem flat_eC (x : Int × Int) (i : Nat) : Flat (eC x i) := match i with
  | 0 => flat_int _ _
  | _ + 1 => flat_int _ _
def bothL (n : Nat) (es : Es) : Es := mkL n (es ++ revL es)
def partsL (n : Nat) (es : Es) : List (List Int) := compL n (bothL n es)
def partsRv (n : Int) (es : Es) : Rv :=
  if checkG n es = 0 then .tup [.one (.row 0 (tableR (partsL n.toNat es))), .one (.c (i64 0))] else .tup [.one (.c .nil), .one (.c (i64 (checkG n es)))]
theorem both_in {n : Nat} {es : Es} (hes : inR n es) : inR n (es ++ revL es) := by
  intro e he
  rcases List.mem_append.1 he with he | he
  · exact hes e he
  · have := hes _ ((revL_mem es e.1 e.2).1 he)
    exact ⟨this.2, this.1⟩

set_option maxHeartbeats 1000000 in
theorem ct47 (n : Int) (es : Es) : Ct Try.prog 47 [gA n es] (partsRv n es) := by
  refine ct_of tyAll Try.func47 (by decide) rfl ?_
  conv => whnf
  refine ⟨_, ct21 n es, ?_⟩
  conv => whnf
  refine acond_split (fun h1 => ?_) (fun h1 => ?_)
  · have h1 := dec h1
    conv => whnf
    rw [partsRv, if_neg h1]
    conv => whnf
    repeat' (first | exact trivial | exact rfl | refine And.intro ?_ ?_)
  have h1 : checkG n es = 0 := Decidable.not_not.1 (of_decide_eq_false h1)
  rw [partsRv, if_pos h1, h1]
  obtain ⟨N, rfl, hN, hes, hl, hs⟩ := check_ok h1
  rw [Int.toNat_natCast]
  have h95 := ct_readA (ct95 N es (by omega))
  have hrl := revL_length es
  have hfl : [es, revL es].flatten = es ++ revL es := by simp
  have h94 := ct94 [es, revL es] (by rw [hfl, List.length_append]; omega)
  rw [hfl] at h94
  have hbl : (bothL N es).length ≤ N * N := mkL_length N _
  have hNN : N * N ≤ 64 * 64 := Nat.mul_le_mul hN hN
  have h16 := ct16 N (es ++ revL es) (by rw [List.length_append]; omega)
  have hin : insideB N (es ++ revL es) = true := (insideB_iff _ _).2 (both_in hes)
  have e16 : makeRv N (es ++ revL es) = .tup [.agg [.c (i64 N), .row 0 (edgesR (bothL N es))], .one (.c (i64 0))] := if_neg (by
    unfold makeBad; rw [decide_eq_true_iff]; intro h; rcases h with h | h | h <;> first | omega | (rw [hin] at h; cases h))
  rw [e16] at h16
  have h89 := ct89 N hN (bothL N es) (mkL_in N _) (by omega)
  obtain ⟨b, hb⟩ : ∃ b, b = bothL N es := ⟨_, rfl⟩
  unfold partsL
  rw [← hb] at h16 h89 ⊢
  conv => whnf
  refine draw_introF tyAll mixed 14 (by kernel_rfl) ?_
  conv => whnf
  refine ⟨_, h95, ?_⟩
  conv => whnf
  refine ⟨Es, fun es _ => edges es, [es, revL es], rfl, by decide, rfl, ?_⟩
  conv => whnf
  refine ⟨_, h94, .inl (fun x i => flat_eC x i), ?_⟩
  conv => whnf
  refine ⟨_, h16, .inl (flat_mk _ _), ?_⟩
  conv => whnf
  refine .inr (.inl ?_)
  conv => whnf
  refine ⟨_, h89, ?_⟩
  conv => whnf
  repeat' (first | exact trivial | exact rfl | refine And.intro ?_ ?_)
end Go.Fx
