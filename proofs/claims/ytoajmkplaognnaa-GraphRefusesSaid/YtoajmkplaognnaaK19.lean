/- Plain: the first order. Order. The reference's Order. -/
import Derived.Test.YtoajmkplaognnaaK4
import Derived.Test.YtoajmkplaognnaaK11
set_option linter.unusedVariables false
set_option linter.unusedSimpArgs false
set_option linter.unusedSectionVars false
namespace Go.Fx.Gr

/-- A node that may come next. -/
def rdy (es : Es) (out : List Int) (b : Nat) : Bool := !decide ((b : Int) ∈ out) && es.all fun e => !decide (e.2 = (b : Int)) || decide (e.1 ∈ out)
def ordF (n : Nat) (es : Es) : Nat → List Int → Option (List Int)
  | 0, out => some out
  | f + 1, out => match (List.range n).find? (rdy es out) with
    | none => none
    | some b => ordF n es f (out ++ [(b : Int)])
def ordO (n : Nat) (es : Es) : Option (List Int) := ordF n es n []
def leftN (es : Es) (out : List Int) (b : Nat) : Nat := es.countP fun e => decide (e.2 = (b : Int)) && !decide (e.1 ∈ out)

theorem rdy_left (es : Es) (out : List Int) (b : Nat) : rdy es out b = (!decide ((b : Int) ∈ out) && decide (leftN es out b = 0)) := by
  unfold rdy
  congr 1
  rw [Bool.eq_iff_iff, decide_eq_true_eq]
  unfold leftN
  rw [List.countP_eq_zero, List.all_eq_true]
  refine forall_congr' fun e => forall_congr' fun _ => ?_
  by_cases h1 : e.2 = (b : Int) <;> by_cases h2 : e.1 ∈ out <;> simp [h1, h2]
theorem leftN_step (es : Es) (out : List Int) (k : Int) (hk : k ∉ out) (b : Nat) : leftN es (out ++ [k]) b + (((es.filter fun e => decide (e.1 = k)).map (·.2)).count (b : Int)) = leftN es out b := by
  unfold leftN
  induction es with
  | nil => rfl
  | cons e es ih =>
    rw [List.countP_cons, List.countP_cons, List.filter_cons]
    by_cases h1 : e.1 = k
    · subst h1
      by_cases h2 : e.2 = (b : Int)
      · simp [h2, hk] at ih ⊢; omega
      · simp [h2, hk] at ih ⊢; omega
    · by_cases h2 : e.2 = (b : Int) <;> by_cases h3 : e.1 ∈ out <;> simp [h1, h2, h3] at ih ⊢ <;> omega
theorem leftN_le (es : Es) (out : List Int) (b : Nat) : leftN es out b ≤ es.length := List.countP_le_length
theorem find_none_of {n : Nat} {p : Nat → Bool} (h : ∀ j, j < n → p j = false) : (List.range n).find? p = none := by
  rw [List.find?_eq_none]
  intro x hx
  rw [h x (List.mem_range.1 hx)]
  simp
theorem find_some_of {n k : Nat} {p : Nat → Bool} (hk : k < n) (h : ∀ j, j < k → p j = false) (hp : p k = true) : (List.range n).find? p = some k := by
  rw [List.find?_range_eq_some]
  exact ⟨hp, List.mem_range.2 hk, fun j hj => by rw [h j hj]; rfl⟩
theorem ordF_succ {n : Nat} {es : Es} {f k : Nat} {out : List Int} (hk : k < n) (h : ∀ j, j < k → rdy es out j = false) (hp : rdy es out k = true) : ordF n es (f + 1) out = ordF n es f (out ++ [(k : Int)]) := by
  rw [ordF, find_some_of hk h hp]
theorem ordF_none {n : Nat} {es : Es} {f : Nat} {out : List Int} (h : ∀ j, j < n → rdy es out j = false) : ordF n es (f + 1) out = none := by
  rw [ordF, find_none_of h]
end Go.Fx.Gr

namespace Go.Fx
open Go.Proofs Gr
set_option maxRecDepth 100000

def ordRv (n : Int) (es : Es) : Rv :=
  if checkG n es = 0 then (match ordO n.toNat es with
    | none => .tup [.one (.c .nil), .one (.c (i64 30))]
    | some l => .tup [.one (.row 0 (intsR l)), .one (.c (i64 0))])
  else .tup [.one (.c .nil), .one (.c (i64 (checkG n es)))]

abbrev leftI (n : Nat) (es : Es) (out : List Int) : List Int := tb n fun b => (leftN es out b : Int)
abbrev doneB (n : Nat) (out : List Int) : List Bool := tb n fun b => decide ((b : Int) ∈ out)
abbrev inN (es : Es) (b : Nat) : Nat := es.countP fun e => decide (e.2 = (b : Int))
theorem inN_succ {es : Es} {k : Nat} (h : k < es.length) (b : Nat) : inN (es.take (k + 1)) b = inN (es.take k) b + if (b : Int) = es[k].2 then 1 else 0 := by
  unfold inN
  rw [List.take_succ_eq_append_getElem h, List.countP_append, List.countP_singleton]
  congr 1
  by_cases e : (b : Int) = es[k].2
  · simp [e]
  · rw [if_neg e, if_neg (by simpa using Ne.symm e)]

set_option maxHeartbeats 1000000 in
theorem ct32 (n : Int) (es : Es) : Ct Try.prog 32 [gA n es] (ordRv n es) := by
  refine ct_of tyAll Try.func32 (by decide) rfl ?_
  conv => whnf
  refine ⟨_, ct21 n es, ?_⟩
  conv => whnf
  refine acond_split (fun h1 => ?_) (fun h1 => ?_)
  · have h1 := dec h1
    conv => whnf
    rw [ordRv, if_neg h1]
    conv => whnf
    repeat' (first | exact trivial | exact rfl | refine And.intro ?_ ?_)
  have h1 : checkG n es = 0 := Decidable.not_not.1 (of_decide_eq_false h1)
  rw [ordRv, if_pos h1, h1]
  obtain ⟨N, rfl, hN, hes, hl, hs⟩ := check_ok h1
  rw [Int.toNat_natCast]
  conv => whnf
  refine draw_intro tyAll mixed 8 (by kernel_rfl) ?_
  conv => whnf
  refine ⟨rfl, by omega, by omega, by omega, by omega, Int, fun n _ => i64 n, 0, zok1 (fun _ _ => rfl), ?_⟩
  conv => whnf
  refine ⟨rfl, by omega, by omega, by omega, by omega, Bool, fun b _ => .bool b, false, zok1 (fun _ _ => rfl), ?_⟩
  conv => whnf
  intro _
  conv => whnf
  refine ⟨Nat, fun k => k ≤ es.length, fun k => ⟨(sk 1 (.p (.one (.lptr 1 0)) :: (sk 3 (W 21 0 :: (sk 0 (W 24 0 :: (sk 19 (.c (edges es) :: (sk 0 (I es.length :: (sk 0 (I k :: (sk 65 []))))))))))))), [(1, [.c (i64 N), .c (edges es)])],
    [(21, (0, intsR (tb N fun b => (inN (es.take k) b : Int)))), (24, (0, boolsR (doneB N [])))]⟩, fun k => es.length - k, 0, by omega, ?_, fun k hk => ?_⟩
  · repeat' (first | exact trivial | exact rfl | refine And.intro ?_ ?_)
    · show intsR (List.replicate _ 0) = intsR _
      simp [tb, inN, List.map_const']
    · show boolsR (List.replicate _ false) = boolsR _
      simp [tb, doneB, List.map_const']
  have hk : k ≤ es.length := hk
  conv => whnf
  refine acond_split (fun h2 => ?_) (fun h2 => ?_)
  · have h2 := dec h2
    conv => whnf
    have hlt : k < es.length := by omega
    obtain ⟨ha, hb⟩ := hes es[k] (List.getElem_mem hlt)
    have hc : inN (es.take k) es[k].2.toNat ≤ es.length := Nat.le_trans List.countP_le_length (by simp; omega)
    refine ⟨es[k], by omega, List.getElem?_eq_getElem hlt, ?_⟩
    conv => whnf
    refine ⟨by omega, by simp; omega, ?_⟩
    conv => whnf
    refine ⟨_, tb_get (by omega), ?_⟩
    conv => whnf
    refine ⟨_, wi _ (by omega) (by omega), ?_⟩
    conv => whnf
    refine ⟨by omega, by simp; omega, ?_⟩
    simp only [addObj, setFr, forceA, setK, forceS, forceL]
    unfold seqops
    simp only [wguard, wstep, opd, fget, ownsA, relAll]
    unfold wstore
    simp only [opd, fget, lget]
    conv => whnf
    refine ⟨_, (inN (es.take k) es[k].2.toNat : Int) + 1, tb_get (by omega), rfl, ?_⟩
    conv => whnf
    refine ⟨_, wi _ (by omega) (by omega), ?_⟩
    conv => whnf
    refine ⟨k + 1, by show k + 1 ≤ es.length; omega, by show es.length - (k + 1) < es.length - k; omega, ?_⟩
    repeat' (first | exact trivial | exact rfl | refine And.intro ?_ ?_)
    show intsR (List.set _ _ _) = intsR _
    rw [map_set]
    congr 1
    refine List.map_congr_left fun b hb' => ?_
    rw [inN_succ hlt]
    by_cases e : b = es[k].2.toNat
    · subst e; rw [if_pos rfl, if_pos (by omega)]; omega
    · rw [if_neg e, if_neg (by omega)]; omega
  have h2 := ndec h2
  conv => whnf
  have hk' : k = es.length := by omega
  subst hk'
  rw [List.take_length]
  refine ⟨_, ct84 N hN es hes (by omega), ?_⟩
  conv => whnf
  refine ⟨Nat × List Int, fun i => i.1 ≤ N ∧ i.2.length = i.1 ∧ ordF N es (N - i.1) i.2 = ordO N es, fun i => ⟨(sk 1 (.p (.one (.lptr 1 0)) :: (sk 3 (W 21 0 :: (sk 0 (W 24 0 :: (sk 2 (W 41 0 :: (sk 0 (W 100 0 :: (sk 32 (I N :: (sk 0 (I i.1 :: (sk 49 []))))))))))))))), [(1, [.c (i64 N), .c (edges es)])],
    [(21, (0, intsR (leftI N es i.2))), (24, (0, boolsR (doneB N i.2))), (41, (0, tableR (nextL N es))), (100, (0, intsR i.2))]⟩, fun i => N - i.1, (0, []), ⟨by simp, rfl, rfl⟩, ?_, fun i hi => ?_⟩
  · repeat' (first | exact trivial | exact rfl | refine And.intro ?_ ?_)
    show intsR _ = intsR _
    congr 1
    refine List.map_congr_left fun b _ => ?_
    simp [leftN, inN]
  obtain ⟨t, out⟩ := i
  obtain ⟨ht, hol, hord⟩ := hi
  simp only at ht hol hord
  conv => whnf
  refine acond_split (fun h3 => ?_) (fun h3 => ?_)
  · have h3 := dec h3
    conv => whnf
    have htl : t < N := by omega
    refine ⟨Nat, fun k => k ≤ N ∧ ∀ j, j < k → rdy es out j = false, fun k => ⟨(sk 1 (.p (.one (.lptr 1 0)) :: (sk 3 (W 21 0 :: (sk 0 (W 24 0 :: (sk 2 (W 41 0 :: (sk 0 (W 100 0 :: (sk 0 (I k :: (sk 31 (I N :: (sk 0 (I t :: (sk 49 []))))))))))))))))), [(1, [.c (i64 N), .c (edges es)])],
      [(21, (0, intsR (leftI N es out))), (24, (0, boolsR (doneB N out))), (41, (0, tableR (nextL N es))), (100, (0, intsR out))]⟩, fun k => N - k, 0, ⟨by simp, fun j hj => by omega⟩, ?_, fun k hk => ?_⟩
    · repeat' (first | exact trivial | exact rfl | refine And.intro ?_ ?_)
    obtain ⟨hk, hkn⟩ := hk
    have hrl := rdy_left es out k
    conv => whnf
    refine acond_split (fun h4 => ?_) (fun h4 => ?_)
    · have h4 := dec h4
      conv => whnf
      have hkl : k < N := by omega
      refine ⟨by omega, by simp; omega, ?_⟩
      conv => whnf
      refine ⟨_, tb_get (by omega), ?_⟩
      conv => whnf
      refine acond_split (fun h5 => ?_) (fun h5 => ?_)
      · have h5 : (k : Int) ∈ out := of_decide_eq_true h5
        conv => whnf
        refine ⟨_, wi _ (by omega) (by omega), ?_⟩
        conv => whnf
        refine ⟨k + 1, ⟨by omega, fun j hj => ?_⟩, by show N - (k + 1) < N - k; omega, ?_⟩
        · rcases Nat.lt_or_ge j k with h | h
          · exact hkn j h
          · obtain rfl : j = k := by omega
            rw [hrl, decide_eq_true h5]; rfl
        · repeat' (first | exact trivial | exact rfl | refine And.intro ?_ ?_)
      · have h5 : ¬ (k : Int) ∈ out := of_decide_eq_false h5
        conv => whnf
        refine ⟨by omega, by simp; omega, ?_⟩
        conv => whnf
        refine ⟨_, tb_get (by omega), ?_⟩
        conv => whnf
        refine acond_split (fun h6 => ?_) (fun h6 => ?_)
        · have h6 : 0 < (leftN es out k : Int) := of_decide_eq_true h6
          conv => whnf
          refine ⟨_, wi _ (by omega) (by omega), ?_⟩
          conv => whnf
          refine ⟨k + 1, ⟨by omega, fun j hj => ?_⟩, by show N - (k + 1) < N - k; omega, ?_⟩
          · rcases Nat.lt_or_ge j k with h | h
            · exact hkn j h
            · obtain rfl : j = k := by omega
              rw [hrl, show decide (leftN es out j = 0) = false from decide_eq_false (by omega), Bool.and_false]
          · repeat' (first | exact trivial | exact rfl | refine And.intro ?_ ?_)
        · have h6 : ¬ 0 < (leftN es out k : Int) := of_decide_eq_false h6
          have hr : rdy es out k = true := by
            rw [hrl, decide_eq_false h5, decide_eq_true (by omega : leftN es out k = 0)]; rfl
          have hstep := ordF_succ (f := N - (t + 1)) hkl hkn hr
          rw [show N - (t + 1) + 1 = N - t by omega, hord] at hstep
          conv => whnf
          refine acond_split (fun h7 => ?_) (fun h7 => ?_)
          · have h7 := dec h7
            conv => whnf
            omega
          · conv => whnf
            refine ⟨by omega, by simp; omega, ?_⟩
            simp only [addObj, setFr, forceA, setK, forceS, forceL]
            unfold seqops
            simp only [wguard, wstep, opd, fget, ownsA, relAll]
            unfold wstore
            simp only [opd, fget, lget]
            conv => whnf
            refine ⟨_, true, tb_get (by omega), rfl, ?_⟩
            conv => whnf
            refine ⟨Int, fun n _ => i64 n, [(k : Int)], rfl, by decide, rfl, ?_⟩
            conv => whnf
            refine ⟨[(k : Int)], rfl, by simp; omega, by simp; omega, ?_⟩
            conv => whnf
            refine ⟨by omega, by simp [nextL]; omega, ?_⟩
            conv => whnf
            refine ⟨_, nextL_get (by omega) (by omega), ?_⟩
            conv => whnf
            intro _
            conv => whnf
            obtain ⟨sc, hsc⟩ : ∃ sc, sc = ((es.filter fun e => decide (e.1 = (k : Int))).map (·.2)) := ⟨_, rfl⟩
            have hscr : ∀ y ∈ sc, 0 ≤ y ∧ y < (N : Int) := fun y hy => by
              rw [hsc] at hy
              obtain ⟨e, he, rfl⟩ := List.mem_map.1 hy
              exact (hes e (List.mem_filter.1 he).1).2
            have hcount : ∀ b, leftN es (out ++ [(k : Int)]) b + sc.count (b : Int) = leftN es out b := fun b => by rw [hsc]; exact leftN_step es out k h5 b
            have hscl : sc.length ≤ es.length := by rw [hsc, List.length_map]; exact List.length_filter_le _ _
            rw [← hsc]
            clear hsc hr
            obtain ⟨out2, hout2⟩ : ∃ o, o = out ++ [(k : Int)] := ⟨_, rfl⟩
            have hol2 : out2.length = t + 1 := by rw [hout2]; simp [hol]
            rw [← hout2] at hstep hcount
            obtain ⟨lf, hlf⟩ : ∃ lf : Nat → List Int, ∀ j, lf j = tb N fun b => (leftN es out b : Int) - (sc.take j).count (b : Int) := ⟨_, fun _ => rfl⟩
            obtain ⟨dn, hdn⟩ : ∃ dn, dn = doneB N out2 := ⟨_, rfl⟩
            have hlfl : ∀ j, (lf j).length = N := fun j => by rw [hlf]; simp
            refine ⟨Nat, fun j => j ≤ sc.length, fun j => ⟨(sk 1 (.p (.one (.lptr 1 0)) :: (sk 3 (W 21 0 :: (sk 0 (W 24 0 :: (sk 2 (W 41 0 :: (sk 0 (W 100 1 :: (sk 32 (I N :: (sk 0 (I t :: (sk 34 (.c (ints sc) :: (sk 0 (I sc.length :: (sk 0 (I j :: (sk 12 []))))))))))))))))))))), [(1, [.c (i64 N), .c (edges es)])],
              [(21, (0, intsR (lf j))), (24, (0, boolsR dn)), (41, (0, tableR (nextL N es))), (100, (1, intsR out2))]⟩, fun j => sc.length - j, 0, by omega, ?_, fun j hj => ?_⟩
            · repeat' (first | exact trivial | exact rfl | refine And.intro ?_ ?_)
              · show intsR (leftI N es out) = intsR _
                rw [hlf]
                simp [leftI]
              · show boolsR (List.set _ _ _) = boolsR _
                rw [map_set, hdn]
                congr 1
                refine List.map_congr_left fun b _ => ?_
                rw [hout2]
                by_cases e : b = k
                · subst e; simp
                · simp [e]; omega
              · show intsR (out ++ [(k : Int)]) = intsR out2
                rw [hout2]
            have hj : j ≤ sc.length := hj
            conv => whnf
            refine acond_split (fun h8 => ?_) (fun h8 => ?_)
            · have h8 := dec h8
              conv => whnf
              have hlt : j < sc.length := by omega
              have hr := hscr sc[j] (List.getElem_mem hlt)
              have hle := leftN_le es out sc[j].toNat
              have hcl : (sc.take j).count ((sc[j].toNat : Nat) : Int) ≤ sc.length := Nat.le_trans List.count_le_length (by simp; omega)
              refine ⟨sc[j], by omega, List.getElem?_eq_getElem hlt, ?_⟩
              conv => whnf
              have hg : (lf j)[sc[j].toNat]? = some ((leftN es out sc[j].toNat : Int) - (sc.take j).count ((sc[j].toNat : Nat) : Int)) := by rw [hlf]; exact tb_get (by omega)
              have hlj := hlfl j
              refine ⟨by omega, by show sc[j] < ((lf j).length : Int); omega, ?_⟩
              conv => whnf
              refine ⟨_, hg, ?_⟩
              conv => whnf
              refine ⟨_, wi _ (by omega) (by omega), ?_⟩
              conv => whnf
              refine ⟨by omega, by show sc[j] < ((lf j).length : Int); omega, ?_⟩
              simp only [addObj, setFr, forceA, setK, forceS, forceL]
              unfold seqops
              simp only [wguard, wstep, opd, fget, ownsA, relAll]
              unfold wstore
              simp only [opd, fget, lget]
              conv => whnf
              refine ⟨_, _, hg, rfl, ?_⟩
              conv => whnf
              refine ⟨_, wi _ (by omega) (by omega), ?_⟩
              conv => whnf
              refine ⟨j + 1, by show j + 1 ≤ sc.length; omega, by show sc.length - (j + 1) < sc.length - j; omega, ?_⟩
              repeat' (first | exact trivial | exact rfl | refine And.intro ?_ ?_)
              show intsR (List.set _ _ _) = intsR _
              rw [hlf, hlf, map_set]
              congr 1
              refine List.map_congr_left fun b hb' => ?_
              rw [List.take_succ_eq_append_getElem hlt, List.count_append]
              by_cases e : b = sc[j].toNat
              · subst e
                rw [if_pos rfl, show ((sc[j].toNat : Nat) : Int) = sc[j] by omega]
                simp; omega
              · rw [if_neg e, List.count_singleton, if_neg (by simp; omega)]; simp
            · have h8 := ndec h8
              conv => whnf
              refine ⟨_, wi _ (by omega) (by omega), ?_⟩
              conv => whnf
              refine ⟨(t + 1, out2), ⟨by simp only; omega, hol2, hstep.symm⟩, by show N - (t + 1) < N - t; omega, ?_⟩
              repeat' (first | exact trivial | exact rfl | refine And.intro ?_ ?_)
              · show intsR (lf j) = intsR _
                rw [hlf, List.take_of_length_le (by omega : sc.length ≤ j)]
                congr 1
                refine List.map_congr_left fun b _ => ?_
                have := hcount b
                show (leftN es out b : Int) - sc.count (b : Int) = leftN es out2 b
                omega
              · show boolsR dn = boolsR _
                rw [hdn]
    · have h4 := ndec h4
      conv => whnf
      have hkN : k = N := by omega
      subst hkN
      have hno := ordF_none (n := k) (es := es) (f := k - (t + 1)) hkn
      rw [show k - (t + 1) + 1 = k - t by omega, hord] at hno
      rw [hno]
      refine acond_split (fun h7 => ?_) (fun h7 => ?_)
      · conv => whnf
        repeat' (first | exact trivial | exact rfl | refine And.intro ?_ ?_)
      · have h7 := ndec h7
        conv => whnf
        omega
  · have h3 := ndec h3
    conv => whnf
    have htN : t = N := by omega
    subst htN
    rw [Nat.sub_self, ordF] at hord
    rw [← hord]
    conv => whnf
    repeat' (first | exact trivial | exact rfl | refine And.intro ?_ ?_)
end Go.Fx

namespace Go.Fx
open Go.Proofs Gr
set_option maxRecDepth 100000

def rOrdRv (n : Nat) (es : Es) : Rv := match ordO n es with
  | none => .tup [.one (.c .nil), .one (.c (i64 30))]
  | some l => .tup [.one (.row 0 (intsR l)), .one (.c (i64 0))]
def rdyP (es : Es) (out : List Int) (b i : Nat) : Bool := !decide ((b : Int) ∈ out) && (es.take i).all fun e => !decide (e.2 = (b : Int)) || decide (e.1 ∈ out)
theorem rdyP_succ {es : Es} {out : List Int} {b i : Nat} (h : i < es.length) : rdyP es out b (i + 1) = (rdyP es out b i && (!decide (es[i].2 = (b : Int)) || decide (es[i].1 ∈ out))) := by
  unfold rdyP
  rw [List.take_succ_eq_append_getElem h, List.all_append, Bool.and_assoc]
  simp
theorem rdyP_all (es : Es) (out : List Int) (b i : Nat) (h : es.length ≤ i) : rdyP es out b i = rdy es out b := by
  unfold rdyP rdy; rw [List.take_of_length_le h]

/-- The first one so far, from behind. -/
def NxI (n : Nat) (p : Nat → Bool) (m : Nat) (nx : Int) : Prop :=
  (nx = -1 ∧ ∀ j, m ≤ j → j < n → p j = false) ∨ ∃ j : Nat, nx = j ∧ m ≤ j ∧ j < n ∧ p j = true ∧ ∀ i, m ≤ i → i < j → p i = false

set_option maxHeartbeats 1000000 in
theorem ct34 (n : Nat) (hn : n ≤ 64) (es : Es) (hes : inR n es) (hl : es.length ≤ 1000000) : Ct Try.prog 34 [rA n es] (rOrdRv n es) := by
  refine ct_of tyAll Try.func34 (by decide) rfl ?_
  conv => whnf
  refine ⟨rfl, by omega, by omega, by omega, by omega, Bool, fun b _ => .bool b, false, zok1 (fun _ _ => rfl), ?_⟩
  conv => whnf
  refine ⟨List Int, fun out => out.length ≤ n ∧ ordF n es (n - out.length) out = ordO n es, fun out => ⟨(sk 1 (.p (.one (.lptr 1 0)) :: (sk 2 (W 100 0 :: (sk 0 (W 12 0 :: (sk 65 []))))))), [(1, [.c (i64 n), .c (prs es)])],
    [(12, (0, boolsR (doneB n out))), (100, (0, intsR out))]⟩, fun out => n - out.length, [], ⟨by simp, rfl⟩, ?_, fun out hout => ?_⟩
  · repeat' (first | exact trivial | exact rfl | refine And.intro ?_ ?_)
    show boolsR (List.replicate _ false) = boolsR _
    simp [tb, doneB, List.map_const']
  obtain ⟨hol, hord⟩ := hout
  conv => whnf
  intro _
  conv => whnf
  refine acond_split (fun h1 => ?_) (fun h1 => ?_)
  · have h1 := dec h1
    conv => whnf
    have h1 : (out.length : Int) < n := h1
    refine ⟨_, wi _ (by omega) (by omega), ?_⟩
    conv => whnf
    refine ⟨Nat × Int, fun i => i.1 ≤ n ∧ NxI n (rdy es out) i.1 i.2, fun i => ⟨(sk 1 (.p (.one (.lptr 1 0)) :: (sk 2 (W 100 0 :: (sk 0 (W 12 0 :: (sk 0 (I i.2 :: (sk 0 (I ((i.1 : Int) - 1) :: (sk 63 []))))))))))), [(1, [.c (i64 n), .c (prs es)])],
      [(12, (0, boolsR (doneB n out))), (100, (0, intsR out))]⟩, fun i => i.1, (n, -1), ⟨by simp, .inl ⟨rfl, fun j h2 h3 => by simp only at h2; omega⟩⟩, ?_, fun i hi => ?_⟩
    · repeat' (first | exact trivial | exact rfl | refine And.intro ?_ ?_)
    obtain ⟨m, nx⟩ := i
    obtain ⟨hm, hnx⟩ := hi
    simp only at hm hnx
    conv => whnf
    refine acond_split (fun h2 => ?_) (fun h2 => ?_)
    · have h2 := dec h2
      conv => whnf
      obtain ⟨b, rfl⟩ : ∃ b, m = b + 1 := ⟨m - 1, by omega⟩
      have hb : b < n := by omega
      simp only [show ((b + 1 : Nat) : Int) - 1 = (b : Int) by omega]
      refine ⟨by omega, by simp; omega, ?_⟩
      conv => whnf
      refine ⟨_, tb_get (by omega), ?_⟩
      conv => whnf
      refine ⟨Nat, fun i => i ≤ es.length, fun i => ⟨(sk 1 (.p (.one (.lptr 1 0)) :: (sk 2 (W 100 0 :: (sk 0 (W 12 0 :: (sk 0 (I nx :: (sk 0 (I b :: (sk 0 (.c (.bool (rdyP es out b i)) :: (sk 0 (I i :: (sk 61 []))))))))))))))), [(1, [.c (i64 n), .c (prs es)])],
        [(12, (0, boolsR (doneB n out))), (100, (0, intsR out))]⟩, fun i => es.length - i, 0, by omega, ?_, fun i hi => ?_⟩
      · repeat' (first | exact trivial | exact rfl | refine And.intro ?_ ?_)
        show CVal.bool _ = CVal.bool _
        simp [rdyP]
      have hi : i ≤ es.length := hi
      conv => whnf
      intro _
      conv => whnf
      refine acond_split (fun h3 => ?_) (fun h3 => ?_)
      · have h3 := dec h3
        conv => whnf
        have hlt : i < es.length := by omega
        have hs := rdyP_succ (out := out) (b := b) hlt
        have he := hes es[i] (List.getElem_mem hlt)
        obtain ⟨r, hr⟩ : ∃ r, r = rdyP es out b i := ⟨_, rfl⟩
        rw [← hr] at hs ⊢
        conv => whnf
        refine acond_split (fun h4 => ?_) (fun h4 => ?_)
        · rw [h4, Bool.true_and] at hs
          conv => whnf
          refine ⟨es[i], by omega, List.getElem?_eq_getElem hlt, ?_⟩
          conv => whnf
          refine ⟨by omega, by omega, ?_⟩
          conv => whnf
          refine acond_split (fun h5 => ?_) (fun h5 => ?_)
          · have h5 : es[i].2 ≠ (b : Int) := of_decide_eq_true h5
            rw [decide_eq_false h5, Bool.not_false, Bool.true_or] at hs
            conv => whnf
            refine ⟨_, wi _ (by omega) (by omega), ?_⟩
            conv => whnf
            refine ⟨i + 1, by show i + 1 ≤ es.length; omega, by show es.length - (i + 1) < es.length - i; omega, ?_⟩
            repeat' (first | exact trivial | exact rfl | refine And.intro ?_ ?_)
            show CVal.bool _ = CVal.bool _
            rw [hs]
          · have h5 : es[i].2 = (b : Int) := Decidable.not_not.1 (of_decide_eq_false h5)
            rw [decide_eq_true h5, Bool.not_true, Bool.false_or] at hs
            conv => whnf
            refine ⟨es[i], by omega, List.getElem?_eq_getElem hlt, ?_⟩
            conv => whnf
            refine ⟨by omega, by omega, ?_⟩
            conv => whnf
            refine ⟨by omega, by simp; omega, ?_⟩
            conv => whnf
            refine ⟨_, tb_get (by omega), ?_⟩
            conv => whnf
            refine ⟨_, wi _ (by omega) (by omega), ?_⟩
            conv => whnf
            refine ⟨i + 1, by show i + 1 ≤ es.length; omega, by show es.length - (i + 1) < es.length - i; omega, ?_⟩
            repeat' (first | exact trivial | exact rfl | refine And.intro ?_ ?_)
            show CVal.bool _ = CVal.bool _
            rw [hs, show ((es[i].1.toNat : Nat) : Int) = es[i].1 by omega]
        · rw [h4, Bool.false_and] at hs
          conv => whnf
          refine ⟨_, wi _ (by omega) (by omega), ?_⟩
          conv => whnf
          refine ⟨i + 1, by show i + 1 ≤ es.length; omega, by show es.length - (i + 1) < es.length - i; omega, ?_⟩
          repeat' (first | exact trivial | exact rfl | refine And.intro ?_ ?_)
          show CVal.bool _ = CVal.bool _
          rw [hs]
      · have h3 := ndec h3
        conv => whnf
        rw [rdyP_all es out b i (by omega)]
        obtain ⟨r, hr⟩ : ∃ r, r = rdy es out b := ⟨_, rfl⟩
        rw [← hr]
        conv => whnf
        refine acond_split (fun h4 => ?_) (fun h4 => ?_)
        · conv => whnf
          refine ⟨_, wi _ (by omega) (by omega), ?_⟩
          conv => whnf
          refine ⟨(b, (b : Int)), ⟨by simp only; omega, .inr ⟨b, rfl, Nat.le_refl _, hb, by rw [← hr]; exact h4, fun i h5 h6 => by simp only at h5; omega⟩⟩, by show b < b + 1; omega, ?_⟩
          repeat' (first | exact trivial | exact rfl | refine And.intro ?_ ?_)
        · conv => whnf
          refine ⟨_, wi _ (by omega) (by omega), ?_⟩
          conv => whnf
          refine ⟨(b, nx), ⟨by simp only; omega, ?_⟩, by show b < b + 1; omega, ?_⟩
          · have hrb : rdy es out b = false := by rw [← hr]; exact h4
            rcases hnx with ⟨h5, h6⟩ | ⟨j, h5, h6, h7, h8, h9⟩
            · refine .inl ⟨h5, fun j h7 h8 => ?_⟩
              rcases Nat.eq_or_lt_of_le h7 with h | h
              · rw [← h]; exact hrb
              · exact h6 j h h8
            · refine .inr ⟨j, h5, by simp only; omega, h7, h8, fun i h10 h11 => ?_⟩
              rcases Nat.eq_or_lt_of_le h10 with h | h
              · rw [← h]; exact hrb
              · exact h9 i h h11
          · repeat' (first | exact trivial | exact rfl | refine And.intro ?_ ?_)
    · have h2 := ndec h2
      conv => whnf
      have hm0 : m = 0 := by omega
      subst hm0
      refine acond_split (fun h3 => ?_) (fun h3 => ?_)
      · have h3 := dec h3
        conv => whnf
        rcases hnx with ⟨h5, h6⟩ | ⟨j, h5, h6, h7, h8, h9⟩
        · have hno := ordF_none (n := n) (es := es) (f := n - (out.length + 1)) (fun j hj => h6 j (Nat.zero_le _) hj)
          rw [show n - (out.length + 1) + 1 = n - out.length by omega, hord] at hno
          rw [rOrdRv, hno]
          repeat' (first | exact trivial | exact rfl | refine And.intro ?_ ?_)
        · omega
      · have h3 := ndec h3
        conv => whnf
        rcases hnx with ⟨h5, h6⟩ | ⟨j, h5, h6, h7, h8, h9⟩
        · omega
        · subst h5
          have hstep := ordF_succ (f := n - (out.length + 1)) h7 (fun i hi => h9 i (Nat.zero_le _) hi) h8
          rw [show n - (out.length + 1) + 1 = n - out.length by omega, hord] at hstep
          obtain ⟨out2, hout2⟩ : ∃ o, o = out ++ [(j : Int)] := ⟨_, rfl⟩
          have hol2 : out2.length = out.length + 1 := by rw [hout2]; simp
          obtain ⟨dn, hdn⟩ : ∃ dn, dn = doneB n out2 := ⟨_, rfl⟩
          rw [← hout2] at hstep
          refine ⟨by omega, by simp; omega, ?_⟩
          simp only [addObj, setFr, forceA, setK, forceS, forceL]
          unfold seqops
          simp only [wguard, wstep, opd, fget, ownsA, relAll]
          unfold wstore
          simp only [opd, fget, lget]
          conv => whnf
          refine ⟨_, true, tb_get (by omega), rfl, ?_⟩
          conv => whnf
          refine ⟨Int, fun n _ => i64 n, [(j : Int)], rfl, by decide, rfl, ?_⟩
          conv => whnf
          refine ⟨[(j : Int)], rfl, by simp; omega, by simp; omega, ?_⟩
          conv => whnf
          refine ⟨out2, ⟨by omega, by rw [hol2]; exact hstep.symm⟩, by show n - out2.length < n - out.length; omega, ?_⟩
          repeat' (first | exact trivial | exact rfl | refine And.intro ?_ ?_)
          · show boolsR (List.set _ _ _) = boolsR _
            rw [map_set]
            congr 1
            refine List.map_congr_left fun b _ => ?_
            rw [hout2]
            by_cases e : b = j
            · subst e; simp
            · simp [e]; omega
          · show intsR (out ++ [(j : Int)]) = intsR out2
            rw [hout2]
  · have h1 := ndec h1
    conv => whnf
    have h1 : ¬ (out.length : Int) < n := h1
    rw [show n - out.length = 0 by omega, ordF] at hord
    rw [rOrdRv, ← hord]
    repeat' (first | exact trivial | exact rfl | refine And.intro ?_ ?_)
end Go.Fx
