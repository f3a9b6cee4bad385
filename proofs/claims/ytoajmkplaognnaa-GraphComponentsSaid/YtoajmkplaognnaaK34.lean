/- The engine, part 20: regions that draw their order and append to hidden rows. -/
import Derived.Test.YtoajmkplaognnaaK24
set_option linter.unusedVariables false
set_option linter.unusedSimpArgs false
set_option linter.unusedSectionVars false
namespace Go.Fx
open Go.RowKit
set_option linter.unusedVariables false

abbrev Hid := List (Nat × (Nat × Row))
/-- The rows of U are as h says. -/
def over (F : Mem) (U : List Nat) (h : Hid) : Mem := ⟨F.loc, fun r => match memN r U with
  | true => lget h r
  | false => F.row r⟩
theorem over_over (F : Mem) (U : List Nat) (h h' : Hid) : over (over F U h) U h' = over F U h' := by
  show Mem.mk _ _ = Mem.mk _ _
  congr 1
  funext r
  cases e : memN r U <;> simp [over, e]
/-- None of U is among the new ones. -/
def Away (U : List Nat) : NObj → Prop
  | .rows L => ∀ r, memN r U = true → lget L r = none
  | _ => True
theorem over_add {F : Mem} {U : List Nat} {h : Hid} {n : NObj} (hn : Away U n) : over (F.add n) U h = (over F U h).add n := by
  cases n with
  | no => rfl
  | loc l cs => rfl
  | rows L =>
    show Mem.mk _ _ = Mem.mk _ _
    congr 1
    funext r
    cases e : memN r U with
    | true => simp [over, e, hn r e]
    | false => simp [over, e, Mem.add]
theorem over_fresh {F : Mem} {U : List Nat} {h : Hid} {n : NObj} (hf : Fresh F n) (hn : Away U n) : Fresh (over F U h) n := by
  cases n with
  | no => trivial
  | loc l cs => exact hf
  | rows L =>
    intro r R hr
    cases e : memN r U with
    | true => rw [hn r e] at hr; cases hr
    | false => simp [over, e]; exact hf r R hr

/-- What an operation does that makes or writes hidden rows. -/
def BSem (P : Program) (U : List Nat) (o : Oper) (fr : List AVal) (h h' : Hid) (x : AVal) : Prop :=
  ∀ (w0 : World) (X0 : Nat → Prop) (F : Mem) (m : Map) (a : Act) (w : World) (Q : Exit → Act → World → Prop), Core w0 X0 F m w → (∀ r, memN r U = true → F.row r = lget h r) → (∀ y ∈ o.op.operands.toList, VRel w (Bad X0 F m) F m (opd fr y) (a.eval y)) →
    o.wp P a w (fun a' w' => ∃ m' v, a' = a.put o.dst v ∧ Core w0 X0 (over F U h') m' w' ∧ Grow F m w (over F U h') m' w' ∧ VRel w' (Bad X0 (over F U h') m') (over F U h') m' x v) Q

/-- Which rows an operation may look at. -/
def rowsFor (late : Bool) (row : LookR) (U : List Nat) (h : Hid) : LookR := fun r => match memN r U with
  | true => match late with
    | true => lget h r
    | false => none
  | false => row r

structure DH : Type 1 where
  d : DI
  bar : Bool
  h : Hid
  h' : Hid

def ChainB (P : Program) (T : TypeId → Ty) (ops : List Oper) (U : List Nat) (late : Nat → Bool) : List DH → Nat → List AVal → Mem → Hid → List AVal → Mem → Hid → Prop
  | [], _, fr, F, h, fr', F', h' => fr = fr' ∧ F = F' ∧ h = h'
  | i :: L, j, fr, F, h, fr', F', h' => i.h = h ∧
      (match i.bar with
        | true => i.d.o.guard = none ∧ i.d.yes = true ∧ i.d.n = .no ∧ BSem P U i.d.o fr h i.h' i.d.x
        | false => i.h' = h ∧ gfact ops i.d.o.guard fr i.d.yes ∧ (i.d.yes = true → dop P T F.loc (rowsFor (late j) F.row U h) (opd fr) (i.d.o.dst.getD 0) i.d.o.op fun x n => x = i.d.x ∧ n = i.d.n) ∧ (i.d.yes = false → i.d.x = .tup [] ∧ i.d.n = .no)) ∧
      Fresh F i.d.n ∧ Away U i.d.n ∧ ChainB P T ops U late L (j + 1) (setO fr i.d.o.dst i.d.x) (F.add i.d.n) i.h' fr' F' h'

/-- The hidden rows when the operations of S have run. -/
def hS (S : Nat → Bool) (hend : Hid) : List DH → Nat → Hid
  | [], _ => hend
  | i :: L, j => match i.bar && !S j with
    | true => i.h
    | false => hS S hend L (j + 1)

section
variable {P : Program} {T : TypeId → Ty} {ops : List Oper} {U : List Nat} {late : Nat → Bool}

abbrev ds (L : List DH) : List DI := L.map DH.d

theorem chb_mono {L : List DH} : ∀ {j : Nat} {fr : List AVal} {F : Mem} {h : Hid} {fr' : List AVal} {F' : Mem} {h' : Hid}, ChainB P T ops U late L j fr F h fr' F' h' → MLe F F' := by
  induction L with
  | nil => intro j fr F h fr' F' h' hc; rw [hc.2.1]; exact MLe.refl _
  | cons i L ih => intro j fr F h fr' F' h' hc; exact (mle_add hc.2.2.1).trans (ih hc.2.2.2.2)

theorem chb_mS {L : List DH} {S : Nat → Bool} : ∀ {j : Nat} {fr : List AVal} {F G : Mem} {h : Hid} {fr' : List AVal} {F' : Mem} {h' : Hid}, ChainB P T ops U late L j fr F h fr' F' h' → MLe G F → MLe (mS S (ds L) j G) F' := by
  induction L with
  | nil => intro j fr F G h fr' F' h' hc hg; rw [← hc.2.1]; exact hg
  | cons i L ih =>
    intro j fr F G h fr' F' h' hc hg
    show MLe (mS S (i.d :: ds L) j G) F'
    unfold mS
    cases S j with
    | false => exact ih hc.2.2.2.2 (hg.trans (mle_add hc.2.2.1))
    | true => exact ih hc.2.2.2.2 (mle_add2 hg)

theorem chb_all {L : List DH} {S : Nat → Bool} : ∀ {j : Nat} {fr : List AVal} {F : Mem} {h : Hid} {fr' : List AVal} {F' : Mem} {h' : Hid}, ChainB P T ops U late L j fr F h fr' F' h' → (∀ k, j ≤ k → k < j + L.length → S k = true) → mS S (ds L) j F = F' := by
  induction L with
  | nil => intro j fr F h fr' F' h' hc _; exact hc.2.1
  | cons i L ih =>
    intro j fr F h fr' F' h' hc hs
    show mS S (i.d :: ds L) j F = F'
    unfold mS
    rw [hs j (Nat.le_refl _) (by simp)]
    exact ih hc.2.2.2.2 (fun k h1 h2 => hs k (by omega) (by simp; omega))

theorem chb_fresh {L : List DH} : ∀ {j : Nat} {fr : List AVal} {F : Mem} {h : Hid} {fr' : List AVal} {F' : Mem} {h' : Hid}, ChainB P T ops U late L j fr F h fr' F' h' → (∀ i ∈ ds L, Fresh F i.n) ∧ (ds L).Pairwise (fun a b => Disj a.n b.n) := by
  induction L with
  | nil => intro j fr F h fr' F' h' hc; exact ⟨fun i hi => by simp at hi, List.Pairwise.nil⟩
  | cons i L ih =>
    intro j fr F h fr' F' h' hc
    obtain ⟨h1, h2⟩ := ih hc.2.2.2.2
    refine ⟨fun y hy => ?_, List.pairwise_cons.2 ⟨fun y hy => (fresh_back (h1 y hy) hc.2.2.1).2, h2⟩⟩
    rcases List.mem_cons.1 hy with rfl | hy
    · exact hc.2.2.1
    · exact (fresh_back (h1 y hy) hc.2.2.1).1

theorem chb_away {L : List DH} : ∀ {j : Nat} {fr : List AVal} {F : Mem} {h : Hid} {fr' : List AVal} {F' : Mem} {h' : Hid}, ChainB P T ops U late L j fr F h fr' F' h' → ∀ i ∈ ds L, Away U i.n := by
  induction L with
  | nil => intro j fr F h fr' F' h' hc i hi; simp at hi
  | cons i L ih =>
    intro j fr F h fr' F' h' hc y hy
    rcases List.mem_cons.1 hy with rfl | hy
    · exact hc.2.2.2.1
    · exact ih hc.2.2.2.2 y hy

theorem chb_at {L : List DH} : ∀ {fr : List AVal} {F : Mem} {h : Hid} {fr' : List AVal} {F' : Mem} {h' : Hid} (j k : Nat) (i : DH), ChainB P T ops U late L j fr F h fr' F' h' → j ≤ k → L[k - j]? = some i →
    ∃ frk Fk, frk.length = fr.length ∧ (∀ t, t < fr.length → fget frk t = vS (fun q => decide (q < k)) t (ds L) j (fget fr t)) ∧
      (match i.bar with
        | true => i.d.o.guard = none ∧ i.d.yes = true ∧ i.d.n = .no ∧ BSem P U i.d.o frk i.h i.h' i.d.x
        | false => i.h' = i.h ∧ gfact ops i.d.o.guard frk i.d.yes ∧ (i.d.yes = true → dop P T Fk.loc (rowsFor (late k) Fk.row U i.h) (opd frk) (i.d.o.dst.getD 0) i.d.o.op fun x n => x = i.d.x ∧ n = i.d.n) ∧ (i.d.yes = false → i.d.x = .tup [] ∧ i.d.n = .no)) ∧ MLe Fk F' := by
  induction L with
  | nil => intro fr F h fr' F' h' j k i _ _ hk; simp at hk
  | cons y L ih =>
    intro fr F h fr' F' h' j k i hc hj hk
    by_cases e : j = k
    · subst e
      simp at hk
      subst hk
      refine ⟨fr, F, rfl, fun t ht => (vS_none _ j _ (fun k' i' _ _ => by simp)).symm, ?_, chb_mono hc⟩
      have h2 := hc.2.1
      rw [hc.1]
      exact h2
    · have h2 : L[k - (j + 1)]? = some i := by
        rw [show k - j = (k - (j + 1)) + 1 by omega] at hk
        simpa using hk
      obtain ⟨frk, Fk, h3, h4, h5⟩ := ih (j + 1) k i hc.2.2.2.2 (by omega) h2
      refine ⟨frk, Fk, by rw [h3, setO_length], fun t ht => ?_, h5⟩
      rw [h4 t (by rw [setO_length]; exact ht)]
      show _ = vS _ t (y.d :: ds L) j _
      rw [vS]
      congr 1
      rw [show decide (j < k) = true by simp; omega]
      unfold setO
      cases hd : y.d.o.dst with
      | none => rfl
      | some d =>
        simp only []
        rw [fget_set ht]
        by_cases e2 : d = t
        · subst e2; simp
        · rw [if_neg e2]
          have : (some d == some t) = false := by simpa using e2
          simp [this]

theorem chb_end {L : List DH} {S : Nat → Bool} : ∀ {j : Nat} {fr : List AVal} {F : Mem} {h : Hid} {fr' : List AVal} {F' : Mem} {h' : Hid}, ChainB P T ops U late L j fr F h fr' F' h' → (∀ k, j ≤ k → k < j + L.length → S k = true) →
    fr'.length = fr.length ∧ ∀ t, t < fr.length → fget fr' t = vS S t (ds L) j (fget fr t) := by
  induction L with
  | nil => intro j fr F h fr' F' h' hc _; rw [hc.1]; exact ⟨rfl, fun t _ => rfl⟩
  | cons y L ih =>
    intro j fr F h fr' F' h' hc hs
    obtain ⟨h1, h2⟩ := ih hc.2.2.2.2 (fun k h1 h2 => hs k (by omega) (by simp; omega))
    refine ⟨by rw [h1, setO_length], fun t ht => ?_⟩
    rw [h2 t (by rw [setO_length]; exact ht)]
    show _ = vS S t (y.d :: ds L) j _
    rw [vS, hs j (Nat.le_refl _) (by simp)]
    congr 1
    unfold setO
    cases hd : y.d.o.dst with
    | none => rfl
    | some d =>
      simp only []
      rw [fget_set ht]
      by_cases e2 : d = t
      · subst e2; simp
      · rw [if_neg e2]
        have : (some d == some t) = false := by simpa using e2
        simp [this]

/-- Before the operation k all that make or write hidden rows have run, and none from k on. -/
theorem hS_at {L : List DH} {S : Nat → Bool} {hend : Hid} : ∀ {j : Nat} {fr : List AVal} {F : Mem} {h : Hid} {fr' : List AVal} {F' : Mem} {h' : Hid} (k : Nat) (i : DH), ChainB P T ops U late L j fr F h fr' F' h' → hend = h' → j ≤ k → L[k - j]? = some i →
    (∀ q b, L[q]? = some b → b.bar = true → j + q < k → S (j + q) = true) → (∀ q b, L[q]? = some b → b.bar = true → k ≤ j + q → S (j + q) = false) → hS S hend L j = i.h := by
  induction L with
  | nil => intro j fr F h fr' F' h' k i _ _ _ hk; simp at hk
  | cons y L ih =>
    intro j fr F h fr' F' h' k i hc he hj hk hlo hhi
    have hyh := hc.1
    unfold hS
    by_cases e : j = k
    · subst e
      simp at hk
      subst hk
      cases hb : y.bar with
      | true =>
        rw [show S j = false from hhi 0 y rfl hb (Nat.le_refl _)]
        rfl
      | false =>
        simp only [Bool.false_and]
        have hh' : y.h' = y.h := by
          have h2 := hc.2.1
          rw [hb] at h2
          rw [h2.1, hyh]
        cases L with
        | nil =>
          have := hc.2.2.2.2.2.2
          unfold hS
          rw [he, ← this, hh']
        | cons z L =>
          have hzh := hc.2.2.2.2.1
          rw [ih (j + 1) z hc.2.2.2.2 he (Nat.le_refl _) (by simp) (fun q b _ _ hq => by omega) (fun q b hq hb' hle => by have := hhi (q + 1) b (by simpa using hq) hb' (by omega); rwa [show j + (q + 1) = j + 1 + q by omega] at this), hzh, hh']
    · have h2 : L[k - (j + 1)]? = some i := by
        rw [show k - j = (k - (j + 1)) + 1 by omega] at hk
        simpa using hk
      have hsj : (y.bar && !S j) = false := by
        cases hb : y.bar with
        | false => rfl
        | true => rw [show S j = true from hlo 0 y rfl hb (by omega)]; rfl
      rw [hsj]
      exact ih k i hc.2.2.2.2 he (by omega) h2 (fun q b hq hb hlt => by have := hlo (q + 1) b (by simpa using hq) hb (by omega); rwa [show j + (q + 1) = j + 1 + q by omega] at this) (fun q b hq hb hle => by have := hhi (q + 1) b (by simpa using hq) hb (by omega); rwa [show j + (q + 1) = j + 1 + q by omega] at this)

theorem hS_next {L : List DH} {S : Nat → Bool} {hend : Hid} : ∀ {j : Nat} {fr : List AVal} {F : Mem} {h : Hid} {fr' : List AVal} {F' : Mem} {h' : Hid} (k : Nat) (i : DH), ChainB P T ops U late L j fr F h fr' F' h' → hend = h' → j ≤ k → L[k - j]? = some i →
    (∀ q b, L[q]? = some b → b.bar = true → j + q ≤ k → S (j + q) = true) → (∀ q b, L[q]? = some b → b.bar = true → k < j + q → S (j + q) = false) → hS S hend L j = i.h' := by
  induction L with
  | nil => intro j fr F h fr' F' h' k i _ _ _ hk; simp at hk
  | cons y L ih =>
    intro j fr F h fr' F' h' k i hc he hj hk hlo hhi
    have hsj : (y.bar && !S j) = false := by
      cases hb : y.bar with
      | false => rfl
      | true => rw [show S j = true from hlo 0 y rfl hb (by omega)]; rfl
    unfold hS
    rw [hsj]
    by_cases e : j = k
    · subst e
      simp at hk
      subst hk
      show hS S hend L (j + 1) = y.h'
      cases L with
      | nil => unfold hS; rw [he]; exact hc.2.2.2.2.2.2.symm
      | cons z L =>
        rw [hS_at (j + 1) z hc.2.2.2.2 he (Nat.le_refl _) (by simp) (fun q b _ _ hq => by omega) (fun q b hq hb hle => by have := hhi (q + 1) b (by simpa using hq) hb (by omega); rwa [show j + (q + 1) = j + 1 + q by omega] at this)]
        exact hc.2.2.2.2.1
    · have h2 : L[k - (j + 1)]? = some i := by
        rw [show k - j = (k - (j + 1)) + 1 by omega] at hk
        simpa using hk
      exact ih k i hc.2.2.2.2 he (by omega) h2 (fun q b hq hb hle => by have := hlo (q + 1) b (by simpa using hq) hb (by omega); rwa [show j + (q + 1) = j + 1 + q by omega] at this) (fun q b hq hb hlt => by have := hhi (q + 1) b (by simpa using hq) hb (by omega); rwa [show j + (q + 1) = j + 1 + q by omega] at this)

theorem hS_all {S : Nat → Bool} {hend : Hid} : ∀ {L : List DH} {j : Nat}, (∀ q b, L[q]? = some b → b.bar = true → S (j + q) = true) → hS S hend L j = hend
  | [], _, _ => rfl
  | i :: L, j, h => by
    unfold hS
    have : (i.bar && !S j) = false := by
      cases hb : i.bar with
      | false => rfl
      | true => rw [show S j = true from h 0 i rfl hb]; rfl
    rw [this]
    exact hS_all fun q b hq hb => by have := h (q + 1) b (by simpa using hq) hb; rwa [show j + (q + 1) = j + 1 + q by omega] at this
theorem hS_congr {S S' : Nat → Bool} {hend : Hid} : ∀ {L : List DH} {j : Nat}, (∀ q b, L[q]? = some b → b.bar = true → S (j + q) = S' (j + q)) → hS S hend L j = hS S' hend L j
  | [], _, _ => rfl
  | i :: L, j, h => by
    unfold hS
    have : (i.bar && !S j) = (i.bar && !S' j) := by
      cases hb : i.bar with
      | false => rfl
      | true => rw [show S j = S' j from h 0 i rfl hb]
    rw [this, hS_congr (S := S) (S' := S') fun q b hq hb => by have := h (q + 1) b (by simpa using hq) hb; rwa [show j + (q + 1) = j + 1 + q by omega] at this]

end

/-- Whom an operation waits for, directly or not. -/
def ancB (ops : Array Oper) : Nat → Nat → Nat → Bool
  | 0, _, _ => false
  | f + 1, i, k => Region.waitsFor .any ops i k || (List.range i).any fun j => Region.waitsFor .any ops i j && ancB ops f j k
section
variable {ops : Array Oper} {listed : Array Bool}
theorem anc_closed (hc : ∀ j oj, ops[j]? = some oj → listed.getD j false = true → ∀ e ∈ oj.after, Region.binds .any e = true → listed.getD e.on false = true) : ∀ (f : Nat) {i k : Nat}, ancB ops f i k = true → listed.getD i false = true → listed.getD k false = true
  | 0, i, k, h, _ => by simp [ancB] at h
  | f + 1, i, k, h, hi => by
    unfold ancB at h
    rw [Bool.or_eq_true] at h
    rcases h with h | h
    · obtain ⟨oi, hoi, e, he, hb, hon⟩ := Region.waitsFor_spec h
      rw [← hon]; exact hc i oi hoi hi e he hb
    · obtain ⟨j, _, hj⟩ := List.any_eq_true.1 h
      rw [Bool.and_eq_true] at hj
      obtain ⟨oi, hoi, e, he, hb, hon⟩ := Region.waitsFor_spec hj.1
      exact anc_closed hc f hj.2 (by rw [← hon]; exact hc i oi hoi hi e he hb)
theorem anc_ready {i : Nat} {oi : Oper} (hoi : ops[i]? = some oi) (hr : ∀ e ∈ oi.after, Region.binds .any e = true → listed.getD e.on false = true)
    (hc : ∀ j oj, ops[j]? = some oj → listed.getD j false = true → ∀ e ∈ oj.after, Region.binds .any e = true → listed.getD e.on false = true) (f : Nat) {k : Nat} (h : ancB ops f i k = true) : listed.getD k false = true := by
  cases f with
  | zero => simp [ancB] at h
  | succ f =>
    unfold ancB at h
    rw [Bool.or_eq_true] at h
    rcases h with h | h
    · obtain ⟨oi', hoi', e, he, hb, hon⟩ := Region.waitsFor_spec h
      rw [hoi] at hoi'; cases hoi'
      rw [← hon]; exact hr e he hb
    · obtain ⟨j, _, hj⟩ := List.any_eq_true.1 h
      rw [Bool.and_eq_true] at hj
      obtain ⟨oi', hoi', e, he, hb, hon⟩ := Region.waitsFor_spec hj.1
      rw [hoi] at hoi'; cases hoi'
      exact anc_closed hc f hj.2 (by rw [← hon]; exact hr e he hb)
end

abbrev memS (s : St) (L : List DH) (U : List Nat) (hend : Hid) (S : Nat → Bool) : Mem := over (mS S (ds L) 0 s.mem) U (hS S hend L 0)
/-- What holds between two operations of such a region. -/
structure DCfgB (w0 : World) (X0 : Nat → Prop) (s : St) (L : List DH) (U : List Nat) (hend : Hid) (S : Nat → Bool) (m : Map) (a : Act) (w : World) : Prop where
  core : Core w0 X0 (memS s L U hend S) m w
  size : a.tmps.size = s.fr.length
  fr : ∀ t v, a.tmps[t]? = some v → VRel w (Bad X0 (memS s L U hend S) m) (memS s L U hend S) m (vS S t (ds L) 0 (fget s.fr t)) v
  defers : a.defers = []

section
variable {P : Program} {T : TypeId → Ty} {w0 w w1 : World} {X0 : Nat → Prop} {s e : St} {m m1 : Map} {a : Act} {o : Oper} {Q : Exit → Act → World → Prop} {K : St → Prop} {ops : Array Oper} {n : Nat}

theorem draw_anyB (hT : TyAll P T) (hB : headB ops n = true) (hn : n ≤ ops.size) (hready : ∀ listed, HeadInv .any ops n listed → ∀ j ∈ Region.ready .any ops listed, n ≤ j → ∀ i, i < n → listed.getD i true = false → floatB ops n i = true) (hnp : ∀ c a w, ¬ Q (.panic c) a w) (hsel : Region.noSelect ops = true)
    {L : List DH} {U : List Nat} {late : Nat → Bool} {eF : Mem} {hend : Hid} (hL : (ds L).map DI.o = ops.toList.take n) (hC : ChainB P T ops.toList U late L 0 s.fr s.mem [] e.fr eF hend)
    (hem : e.mem = over eF U hend) (hbx : ∀ q b, L[q]? = some b → b.bar = true → floatB ops n q = false)
    (hbar : ∀ q q' b b', L[q]? = some b → L[q']? = some b' → b.bar = true → b'.bar = true → q < q' → ∃ f, ancB ops f q' q = true)
    (hlate : ∀ j, late j = true → ∀ q b, L[q]? = some b → b.bar = true → q < j ∧ ∃ f, ancB ops f j q = true)
    (hend2 : ∀ m a w, Rel w0 X0 e m a w → wpAny P .any ops Q (ops.size - n) (Array.replicate n true ++ Array.replicate (ops.size - n) false) a w) :
    ∀ (u : Nat) (listed : Array Bool) (m : Map) (a : Act) (w : World), unl n listed = u → HeadInv .any ops n listed → DCfgB w0 X0 s L U hend (fun q => listed.getD q false) m a w → wpAny P .any ops Q (u + (ops.size - n)) listed a w := by
  have hlen0 : (ds L).length = n := by
    rw [← List.length_map (f := DI.o), hL, List.length_take, Array.length_toList]; omega
  have hlen : L.length = n := by rw [← hlen0]; simp
  have hget : ∀ j oj, j < n → ops[j]? = some oj → ∃ i, L[j]? = some i ∧ i.d.o = oj := by
    intro j oj hj hoj
    have h1 : ((ds L).map DI.o)[j]? = some oj := by
      rw [hL, List.getElem?_take, if_pos hj]; simpa using hoj
    rw [List.getElem?_map, List.getElem?_map] at h1
    obtain ⟨d, hd, he⟩ := Option.map_eq_some_iff.1 h1
    obtain ⟨i, hi, rfl⟩ := Option.map_eq_some_iff.1 hd
    exact ⟨i, hi, he⟩
  have hdget : ∀ (j : Nat) (i : DH), L[j]? = some i → (ds L)[j]? = some i.d := fun j i h => by rw [List.getElem?_map, h]; rfl
  have hinv : ∀ j i, (ds L)[j]? = some i → j < n ∧ ops[j]? = some i.o := by
    intro j i hj
    have hjn : j < n := by rw [← hlen0]; exact (List.getElem?_eq_some_iff.1 hj).1
    have h1 : ((ds L).map DI.o)[j]? = some i.o := by rw [List.getElem?_map, hj]; rfl
    rw [hL, List.getElem?_take, if_pos hjn] at h1
    exact ⟨hjn, by simpa using h1⟩
  obtain ⟨hfr0, hpw⟩ := chb_fresh hC
  have haway := chb_away hC
  intro u
  induction u with
  | zero =>
    intro listed m a w hu inv D
    have hall : ∀ i, i < n → listed.getD i true = true := by
      intro i hi
      have := (List.countP_eq_zero.1 hu) i (List.mem_range.2 hi)
      simpa using this
    have hal : ∀ i, i < n → listed.getD i false = true := by
      intro i hi
      have h1 := hall i hi
      have hsz : i < listed.size := by rw [inv.size]; omega
      simp [hsz] at h1 ⊢; exact h1
    have hlist : listed = Array.replicate n true ++ Array.replicate (ops.size - n) false := by
      apply Array.ext_getElem?
      intro i
      have hsz := inv.size
      rw [Array.getElem?_append]
      by_cases h1 : i < n
      · have hsz2 : i < listed.size := by omega
        have := hal i h1
        simp [hsz2] at this
        rw [if_pos (by simpa using h1), Array.getElem?_eq_getElem hsz2, this]
        simp [h1]
      · rw [if_neg (by simpa using h1)]
        by_cases h2 : i < ops.size
        · have hsz2 : i < listed.size := by omega
          have := inv.tail i (by omega) h2
          simp [hsz2] at this
          rw [Array.getElem?_eq_getElem hsz2, this]
          have : i - n < ops.size - n := by omega
          simp [this]
        · rw [Array.getElem?_eq_none (by omega), Array.getElem?_eq_none (by simp; omega)]
    have hSS : ∀ k, 0 ≤ k → k < 0 + L.length → (fun q => listed.getD q false) k = true := fun k _ hk => hal k (by omega)
    have hmem0 := chb_all hC hSS
    have hhid : hS (fun q => listed.getD q false) hend L 0 = hend := hS_all fun q b hq _ => by
      rw [Nat.zero_add]
      exact hal q (by rw [← hlen]; exact (List.getElem?_eq_some_iff.1 hq).1)
    have hmem : memS s L U hend (fun q => listed.getD q false) = e.mem := by unfold memS; rw [hmem0, hhid, hem]
    obtain ⟨hlen2, hfrE⟩ := chb_end hC hSS
    rw [hlist, Nat.zero_add]
    refine hend2 m a w ⟨by rw [← hmem]; exact D.core, ?_, D.defers⟩
    rw [← hmem]
    -- the frame, slot by slot
    have hsz := D.size
    have key : ∀ (l : List AVal) (vs : List Value), l.length = vs.length → (∀ t v, vs[t]? = some v → VRel w (Bad X0 (memS s L U hend fun q => listed.getD q false) m) (memS s L U hend fun q => listed.getD q false) m (fget l t) v) →
        All2 (VRel w (Bad X0 (memS s L U hend fun q => listed.getD q false) m) (memS s L U hend fun q => listed.getD q false) m) l vs := by
      intro l
      induction l with
      | nil => intro vs h _; cases vs with
        | nil => trivial
        | cons => simp at h
      | cons x l ih => intro vs h hh; cases vs with
        | nil => simp at h
        | cons v vs => exact ⟨hh 0 v rfl, ih vs (by simpa using h) fun t u hu => hh (t + 1) u (by simpa using hu)⟩
    refine key e.fr a.tmps.toList (by rw [hlen2, Array.length_toList, hsz]) fun t v hv => ?_
    have hv : a.tmps[t]? = some v := by simpa using hv
    have ht : t < s.fr.length := by rw [← hsz]; exact (Array.getElem?_eq_some_iff.1 hv).1
    rw [hfrE t ht]
    exact D.fr t v hv
  | succ u ih =>
    intro listed m a w hu inv D
    have hleast : ∃ k, k < n ∧ listed.getD k true = false ∧ k ∈ Region.ready .any ops listed ∧ ∀ q, q < k → listed.getD q true = true := by
      have hpos : 0 < unl n listed := by omega
      obtain ⟨i, hi, hp⟩ := List.countP_pos_iff.1 hpos
      have hi := List.mem_range.1 hi
      obtain ⟨k, hk1, hk2, hk3⟩ := min_of (p := fun i => !listed.getD i true) hp
      have hkn : k < n := by omega
      have hko : k < ops.size := by omega
      refine ⟨k, hkn, by simpa using hk2, mem_ready.2 ⟨by simpa using hk2, ops[k], Array.getElem?_eq_getElem hko, fun e he hb => ?_⟩, fun q hq => by simpa using hk3 q hq⟩
      have hlt := (headB_spec hB hkn (Array.getElem?_eq_getElem hko)).1 e he hb
      have := hk3 e.on hlt
      have hsz : e.on < listed.size := by rw [inv.size]; omega
      simp [hsz] at this ⊢; exact this
    obtain ⟨k0, hk0n, hk0u, hk0r, hk0l⟩ := hleast
    have hne : Region.ready .any ops listed ≠ [] := fun h0 => by rw [h0] at hk0r; cases hk0r
    rw [show u + 1 + (ops.size - n) = (u + (ops.size - n)) + 1 by omega]
    by_cases hex : ∃ j ∈ Region.ready .any ops listed, n ≤ j
    · obtain ⟨j', hj', hjn'⟩ := hex
      have hflo := hready listed inv j' hj' hjn' k0 hk0n hk0u
      have hmain : ∀ j, j = k0 → j ∈ Region.ready .any ops listed → j < n → wpAny P .any ops Q (u + (ops.size - n) + 1) listed a w := by
        intro j hjk hj hjn
        obtain ⟨hjun, oj, hoj, hedges⟩ := mem_ready.1 hj
        obtain ⟨i, hi, rfl⟩ := hget j oj hjn hoj
        have hjs : j < listed.size := by rw [inv.size]; exact (Array.getElem?_eq_some_iff.1 hoj).1
        have inv' := inv.set hj hjn
        have hu' : unl n (listed.setIfInBounds j true) = u := by
          have := unl_set hjs hjun n hjn
          omega
        have hS' : ∀ q, (listed.setIfInBounds j true).getD q false = (listed.getD q false || (q == j)) := by
          intro q
          rw [getD_setT hjs]
          by_cases e : j = q
          · subst e; simp
          · rw [if_neg e]
            have : (q == j) = false := by simpa using Ne.symm e
            simp [this]
        have hSj : listed.getD j false = false := getD_true hjun
        have hmS := mS_set (S := fun q => listed.getD q false) (S' := fun q => (listed.setIfInBounds j true).getD q false) (k := j) hSj hS' (ds L) 0 s.mem i.d hpw (Nat.zero_le _) (by simpa using hdget j i hi)
        have hvS := fun t => vS_set (S := fun q => listed.getD q false) (S' := fun q => (listed.setIfInBounds j true).getD q false) (k := j) (t := t) hS' (ds L) 0 (fget s.fr t) i.d (Nat.zero_le _) (by simpa using hdget j i hi) (fun k' i' hk' hlt hd hd' => by
          rw [Nat.zero_add] at hlt ⊢
          obtain ⟨hk'n, hok'⟩ := hinv k' i' hk'
          rcases (headB_spec hB hk'n hok').2 j i.d.o hlt hoj with ⟨e, he, hb, hon⟩ | hap
          · show listed.getD k' false = false
            cases hs : listed.getD k' false with
            | false => rfl
            | true =>
              have := inv.closed k' i'.o hok' hs e he hb
              rw [hon, hSj] at this
              cases this
          · exact absurd hd ((Oper.apart_spec hap).2.1 t hd'))
        obtain ⟨frj, Fj, hfl, hfv, hcase, hle⟩ := chb_at 0 j i hC (Nat.zero_le _) (by simpa using hi)
        -- what the operation looks at
        have hlook : ∀ t, t ∈ i.d.o.looksAt ops → t < s.fr.length → fget frj t = vS (fun q => listed.getD q false) t (ds L) 0 (fget s.fr t) := by
          intro t ht htl
          rw [hfv t htl]
          exact (agree hB hL inv hjn hoj hjun hedges ht _).symm
        have hlookR : ∀ d, d ∈ i.d.o.looksAt ops → (∃ v, a.tmps[d]? = some v ∧ VRel w (Bad X0 (memS s L U hend fun q => listed.getD q false) m) (memS s L U hend fun q => listed.getD q false) m (fget frj d) v) ∨ fget frj d = .any := by
          intro d hd
          by_cases hlt : d < s.fr.length
          · left
            have hlt2 : d < a.tmps.size := by rw [D.size]; exact hlt
            refine ⟨a.tmps[d], Array.getElem?_eq_getElem hlt2, ?_⟩
            rw [hlook d hd hlt]
            exact D.fr d _ (Array.getElem?_eq_getElem hlt2)
          · exact .inr (fget_out (by rw [hfl]; exact Nat.le_of_not_lt hlt))
        have hbr : i.bar = false := by
          cases hb : i.bar with
          | false => rfl
          | true => have h1 := hbx j i hi hb; rw [hjk, hflo] at h1; cases h1
        rw [hbr] at hcase
        obtain ⟨hh', hg, hq, hno⟩ := hcase
        have hwant := wanted_of_gfact hg hlookR
        have hmemQ : memS s L U hend (fun q => (listed.setIfInBounds j true).getD q false) = (memS s L U hend fun q => listed.getD q false).add i.d.n := by
          unfold memS
          rw [hmS, over_add (haway i.d (List.mem_of_getElem? (hdget j i hi))), hS_congr (S' := fun q => listed.getD q false) fun q b hqb hb => ?_]
          rw [Nat.zero_add]
          have hqj : q ≠ j := fun e => by subst e; rw [hi] at hqb; cases hqb; rw [hbr] at hb; cases hb
          show (listed.setIfInBounds j true).getD q false = listed.getD q false
          rw [hS' q, show (q == j) = false by simpa using hqj, Bool.or_false]
        have hput : ∀ (m' : Map) (v : Value) (w' : World), Core w0 X0 ((memS s L U hend fun q => listed.getD q false).add i.d.n) m' w' →
            (∀ (x : AVal) (u : Value), VRel w (Bad X0 (memS s L U hend fun q => listed.getD q false) m) (memS s L U hend fun q => listed.getD q false) m x u → VRel w' (Bad X0 ((memS s L U hend fun q => listed.getD q false).add i.d.n) m') ((memS s L U hend fun q => listed.getD q false).add i.d.n) m' x u) →
            VRel w' (Bad X0 ((memS s L U hend fun q => listed.getD q false).add i.d.n) m') ((memS s L U hend fun q => listed.getD q false).add i.d.n) m' i.d.x v →
            wpAny P .any ops Q (u + (ops.size - n)) (listed.setIfInBounds j true) (a.put i.d.o.dst v) w' := by
          intro m' v w' hC' hmono hv
          refine ih _ m' _ w' hu' inv' ⟨by rw [hmemQ]; exact hC', by rw [put_size]; exact D.size, fun t u' hu => ?_, by cases i.d.o.dst <;> exact D.defers⟩
          rw [hmemQ, hvS t]
          rcases put_get hu with ⟨hd, rfl⟩ | ⟨hd, hu⟩
          · rw [show (i.d.o.dst == some t) = true by simp [hd]]
            exact hv
          · rw [show (i.d.o.dst == some t) = false by simpa using hd]
            exact hmono _ _ (D.fr t u' hu)
        obtain ⟨hg0, y, ix, hox, hfar⟩ := floatB_spec (by rw [hjk]; exact hflo) hoj
        have hyes : i.d.yes = true := by
          cases hyes : i.d.yes with
          | true => rfl
          | false => rw [hyes] at hwant; unfold Region.wanted at hwant; rw [hg0] at hwant; cases hwant
        have hd := hq hyes
        unfold dop at hd
        rw [hox] at hd
        simp only [qop] at hd
        split at hd
        case h_2 => exact hd.elim
        rename_i lt hlt'
        split at hd
        case h_2 => exact hd.elim
        rename_i py hpy
        obtain ⟨hdx, hdn⟩ := hd
        have hyv : VRel w (Bad X0 (memS s L U hend fun q => listed.getD q false) m) (memS s L U hend fun q => listed.getD q false) m (opd frj y) (a.eval y) := by
          cases y with
          | const c => exact crel_cOf _ _ _ _ c
          | global g => trivial
          | func f => exact ⟨[], rfl, rfl, fun i u h => by simp at h⟩
          | tmp t =>
            have ht : t ∈ i.d.o.looksAt ops := List.mem_append_left _ (List.mem_filterMap.2 ⟨.tmp t, by rw [hox]; simp [Op.operands], rfl⟩)
            rcases hlookR t ht with ⟨v, hv1, hv2⟩ | hany
            · have e1 : a.eval (.tmp t) = v := by simp [Act.eval, hv1]
              rw [e1]; exact hv2
            · show VRel _ _ _ _ (fget frj t) _
              rw [hany]; trivial
        rw [hlt'] at hyv
        obtain ⟨vs, hev, hall⟩ := hyv
        obtain ⟨v, hv, hvr⟩ := hall.get ix hpy
        have hrun : ∀ w', (execOp a.eval i.d.o).run P w' = .ok (.value v) w' := fun w' => by simp [execOp, hox, hev, Instr.extract, hv]
        subst hjk
        refine wpAny_first hoj (Region.noSelect_spec hsel) (fun c a' w' h => absurd h (hnp c _ _)) (u + (ops.size - n)) listed a w (fun j1 oj1 hj1 hne1 hun1 hno1 => ?_) hj (v := v) (.inl ⟨by rw [hwant, hyes], hrun⟩) ?_
        · by_cases hj1n : j1 < n
          · have hlt1 : j < j1 := by
              rcases Nat.lt_trichotomy j j1 with h | h | h
              · exact h
              · exact absurd h.symm hne1
              · have := hk0l j1 h; rw [hun1] at this; cases this
            rcases (headB_spec hB hj1n hj1).2 j i.d.o hlt1 hoj with ⟨e, he, hb, hon⟩ | hap
            · exact absurd hon (hno1 e he hb)
            · exact hap
          · rcases hfar j1 oj1 (by omega) hj1 with ⟨e, he, hb, hon⟩ | hap
            · exact absurd hon (hno1 e he hb)
            · exact hap
        · refine hput m v w ?_ ?_ ?_
          · rw [← hdn]; exact D.core
          · intro x u h; rw [← hdn]; exact h
          · rw [← hdn, ← hdx]; exact hvr
      exact hmain k0 rfl hk0r hk0n
    refine ⟨fun h0 => absurd h0 hne, fun j hj => ?_⟩
    obtain ⟨hjun, oj, hoj, hedges⟩ := mem_ready.1 hj
    have hjn : j < n := by
      rcases Nat.lt_or_ge j n with h | h
      · exact h
      · exact absurd ⟨j, hj, h⟩ hex
    obtain ⟨i, hi, rfl⟩ := hget j oj hjn hoj
    have hjs : j < listed.size := by rw [inv.size]; exact (Array.getElem?_eq_some_iff.1 hoj).1
    have inv' := inv.set hj hjn
    have hu' : unl n (listed.setIfInBounds j true) = u := by
      have := unl_set hjs hjun n hjn
      omega
    have hS' : ∀ q, (listed.setIfInBounds j true).getD q false = (listed.getD q false || (q == j)) := by
      intro q
      rw [getD_setT hjs]
      by_cases e : j = q
      · subst e; simp
      · rw [if_neg e]
        have : (q == j) = false := by simpa using Ne.symm e
        simp [this]
    have hSj : listed.getD j false = false := getD_true hjun
    have hmS := mS_set (S := fun q => listed.getD q false) (S' := fun q => (listed.setIfInBounds j true).getD q false) (k := j) hSj hS' (ds L) 0 s.mem i.d hpw (Nat.zero_le _) (by simpa using hdget j i hi)
    have hvS := fun t => vS_set (S := fun q => listed.getD q false) (S' := fun q => (listed.setIfInBounds j true).getD q false) (k := j) (t := t) hS' (ds L) 0 (fget s.fr t) i.d (Nat.zero_le _) (by simpa using hdget j i hi) (fun k' i' hk' hlt hd hd' => by
      rw [Nat.zero_add] at hlt ⊢
      obtain ⟨hk'n, hok'⟩ := hinv k' i' hk'
      rcases (headB_spec hB hk'n hok').2 j i.d.o hlt hoj with ⟨e, he, hb, hon⟩ | hap
      · show listed.getD k' false = false
        cases hs : listed.getD k' false with
        | false => rfl
        | true =>
          have := inv.closed k' i'.o hok' hs e he hb
          rw [hon, hSj] at this
          cases this
      · exact absurd hd ((Oper.apart_spec hap).2.1 t hd'))
    obtain ⟨frj, Fj, hfl, hfv, hcase, hle⟩ := chb_at 0 j i hC (Nat.zero_le _) (by simpa using hi)
    -- what the operation looks at
    have hlook : ∀ t, t ∈ i.d.o.looksAt ops → t < s.fr.length → fget frj t = vS (fun q => listed.getD q false) t (ds L) 0 (fget s.fr t) := by
      intro t ht htl
      rw [hfv t htl]
      exact (agree hB hL inv hjn hoj hjun hedges ht _).symm
    have hlookR : ∀ d, d ∈ i.d.o.looksAt ops → (∃ v, a.tmps[d]? = some v ∧ VRel w (Bad X0 (memS s L U hend fun q => listed.getD q false) m) (memS s L U hend fun q => listed.getD q false) m (fget frj d) v) ∨ fget frj d = .any := by
      intro d hd
      by_cases hlt : d < s.fr.length
      · left
        have hlt2 : d < a.tmps.size := by rw [D.size]; exact hlt
        refine ⟨a.tmps[d], Array.getElem?_eq_getElem hlt2, ?_⟩
        rw [hlook d hd hlt]
        exact D.fr d _ (Array.getElem?_eq_getElem hlt2)
      · exact .inr (fget_out (by rw [hfl]; exact Nat.le_of_not_lt hlt))
    cases hbr : i.bar with
    | true =>
      rw [hbr] at hcase
      obtain ⟨hg0, hyes, hnn, hB0⟩ := hcase
      have hlo : ∀ q b, L[q]? = some b → b.bar = true → q < j → listed.getD q false = true := fun q b hq hb hlt => by
        obtain ⟨f, hf⟩ := hbar q j b i hq hi hb hbr hlt
        exact anc_ready hoj hedges inv.closed f hf
      have hhi : ∀ q b, L[q]? = some b → b.bar = true → j < q → listed.getD q false = false := fun q b hq hb hlt => by
        obtain ⟨f, hf⟩ := hbar j q i b hi hq hbr hb hlt
        cases hs : listed.getD q false with
        | false => rfl
        | true => have := anc_closed inv.closed f hf hs; rw [hSj] at this; cases this
      have e1 : hS (fun q => listed.getD q false) hend L 0 = i.h := hS_at j i hC rfl (Nat.zero_le _) (by simpa using hi) (fun q b hq hb hlt => by rw [Nat.zero_add] at hlt ⊢; exact hlo q b hq hb hlt) (fun q b hq hb hge => by
        rw [Nat.zero_add] at hge ⊢
        rcases Nat.eq_or_lt_of_le hge with h | h
        · rw [← h]; exact hSj
        · exact hhi q b hq hb h)
      have e2 : hS (fun q => (listed.setIfInBounds j true).getD q false) hend L 0 = i.h' := hS_next j i hC rfl (Nat.zero_le _) (by simpa using hi) (fun q b hq hb hle' => by
        rw [Nat.zero_add] at hle' ⊢
        show (listed.setIfInBounds j true).getD q false = true
        rw [hS' q]
        rcases Nat.eq_or_lt_of_le hle' with h | h
        · rw [h]; simp
        · rw [hlo q b hq hb h]; rfl) (fun q b hq hb hlt => by
        rw [Nat.zero_add] at hlt ⊢
        show (listed.setIfInBounds j true).getD q false = false
        rw [hS' q, hhi q b hq hb hlt, show (q == j) = false by simp; omega]; rfl)
      have hmemB : memS s L U hend (fun q => (listed.setIfInBounds j true).getD q false) = over (memS s L U hend fun q => listed.getD q false) U i.h' := by
        unfold memS
        rw [hmS, hnn, over_over, e2]
        rfl
      unfold wpOp
      simp only [hoj]
      rw [show Region.wanted i.d.o (yielded ops a.tmps) = true by unfold Region.wanted; rw [hg0], if_pos rfl]
      left
      refine Oper.wp_mono (fun a' w' hp => ?_) (hB0 w0 X0 (memS s L U hend fun q => listed.getD q false) m a w Q D.core (fun r hr => ?_) (fun y hy => ?_))
      · obtain ⟨m', v, rfl, C', g, hv⟩ := hp
        refine ih _ m' _ w' hu' inv' ⟨by rw [hmemB]; exact C', by rw [put_size]; exact D.size, fun t u' hu => ?_, by cases i.d.o.dst <;> exact D.defers⟩
        rw [hmemB, hvS t]
        rcases put_get hu with ⟨hd, rfl⟩ | ⟨hd, hu⟩
        · rw [show (i.d.o.dst == some t) = true by simp [hd]]
          exact hv
        · rw [show (i.d.o.dst == some t) = false by simpa using hd]
          exact g.vrel D.core.xlt (D.fr t u' hu)
      · simp only [memS, over, hr]
        rw [e1]
      · cases y with
        | const c => exact crel_cOf _ _ _ _ c
        | global g => trivial
        | func f => exact ⟨[], rfl, rfl, fun i u h => by simp at h⟩
        | tmp t =>
          have ht : t ∈ i.d.o.looksAt ops := List.mem_append_left _ (List.mem_filterMap.2 ⟨.tmp t, by simpa using hy, rfl⟩)
          rcases hlookR t ht with ⟨v, hv1, hv2⟩ | hany
          · have e1 : a.eval (.tmp t) = v := by simp [Act.eval, hv1]
            rw [e1]; exact hv2
          · show VRel _ _ _ _ (fget frj t) _
            rw [hany]; trivial
    | false =>
    rw [hbr] at hcase
    obtain ⟨hh', hg, hq, hno⟩ := hcase
    have hmemQ : memS s L U hend (fun q => (listed.setIfInBounds j true).getD q false) = (memS s L U hend fun q => listed.getD q false).add i.d.n := by
      unfold memS
      rw [hmS, over_add (haway i.d (List.mem_of_getElem? (hdget j i hi))), hS_congr (S' := fun q => listed.getD q false) fun q b hqb hb => ?_]
      rw [Nat.zero_add]
      have hqj : q ≠ j := fun e => by subst e; rw [hi] at hqb; cases hqb; rw [hbr] at hb; cases hb
      show (listed.setIfInBounds j true).getD q false = listed.getD q false
      rw [hS' q, show (q == j) = false by simpa using hqj, Bool.or_false]
    have hwant := wanted_of_gfact hg hlookR
    have hput : ∀ (m' : Map) (v : Value) (w' : World), Core w0 X0 ((memS s L U hend fun q => listed.getD q false).add i.d.n) m' w' →
        (∀ (x : AVal) (u : Value), VRel w (Bad X0 (memS s L U hend fun q => listed.getD q false) m) (memS s L U hend fun q => listed.getD q false) m x u → VRel w' (Bad X0 ((memS s L U hend fun q => listed.getD q false).add i.d.n) m') ((memS s L U hend fun q => listed.getD q false).add i.d.n) m' x u) →
        VRel w' (Bad X0 ((memS s L U hend fun q => listed.getD q false).add i.d.n) m') ((memS s L U hend fun q => listed.getD q false).add i.d.n) m' i.d.x v →
        wpAny P .any ops Q (u + (ops.size - n)) (listed.setIfInBounds j true) (a.put i.d.o.dst v) w' := by
      intro m' v w' hC' hmono hv
      refine ih _ m' _ w' hu' inv' ⟨by rw [hmemQ]; exact hC', by rw [put_size]; exact D.size, fun t u' hu => ?_, by cases i.d.o.dst <;> exact D.defers⟩
      rw [hmemQ, hvS t]
      rcases put_get hu with ⟨hd, rfl⟩ | ⟨hd, hu⟩
      · rw [show (i.d.o.dst == some t) = true by simp [hd]]
        exact hv
      · rw [show (i.d.o.dst == some t) = false by simpa using hd]
        exact hmono _ _ (D.fr t u' hu)
    unfold wpOp
    simp only [hoj]
    rw [hwant]
    cases hyes : i.d.yes with
    | false =>
      rw [if_neg (by simp)]
      obtain ⟨hx, hnn⟩ := hno hyes
      refine hput m undef w (by rw [hnn]; exact D.core) (fun x u h => by rw [hnn]; exact h) ?_
      rw [hx]
      exact undef_rel _ _
    | true =>
      rw [if_pos rfl]
      left
      have hle2 := chb_mS (S := fun q => listed.getD q false) hC (MLe.refl s.mem)
      obtain ⟨rk, hrk⟩ : ∃ rk : LookR, rk = fun r => match (memS s L U hend fun q => listed.getD q false).row r with
        | some p => some p
        | none => e.mem.row r := ⟨_, rfl⟩
      have hrk1 : ∀ r p, (memS s L U hend fun q => listed.getD q false).row r = some p → rk r = some p := fun r p h => by rw [hrk]; simp only [h]
      have hlk1 : ∀ l cs, (memS s L U hend fun q => listed.getD q false).loc l = some cs → e.mem.loc l = some cs := fun l cs h => by rw [hem]; exact hle2.1 l cs h
      have hrk2 : ∀ r p, rowsFor (late j) Fj.row U i.h r = some p → rk r = some p := fun r p h => by
        unfold rowsFor at h
        cases hU : memN r U with
        | false =>
          rw [hU] at h
          have h : Fj.row r = some p := h
          have he : e.mem.row r = some p := by rw [hem]; simp only [over, hU]; exact hle.2 r p h
          rw [hrk]
          simp only
          cases hm : (memS s L U hend fun q => listed.getD q false).row r with
          | none => exact he
          | some p' =>
            have hm2 : (mS (fun q => listed.getD q false) (ds L) 0 s.mem).row r = some p' := by
              have hm := hm
              simp only [memS, over, hU] at hm
              exact hm
            have h3 := hle2.2 r p' hm2
            rw [hle.2 r p h] at h3
            exact congrArg some (Option.some.inj h3).symm
        | true =>
          rw [hU] at h
          cases hlt : late j with
          | false => rw [hlt] at h; cases h
          | true =>
            rw [hlt] at h
            have h : lget i.h r = some p := h
            have hall : ∀ q b, L[q]? = some b → b.bar = true → q < j ∧ listed.getD q false = true := fun q b hq hb => by
              obtain ⟨h1, f, h2⟩ := hlate j hlt q b hq hb
              exact ⟨h1, anc_ready hoj hedges inv.closed f h2⟩
            have e1 : hS (fun q => listed.getD q false) hend L 0 = i.h := hS_at j i hC rfl (Nat.zero_le _) (by simpa using hi) (fun q b hq hb _ => by rw [Nat.zero_add]; exact (hall q b hq hb).2) (fun q b hq hb hge => by have := (hall q b hq hb).1; omega)
            exact hrk1 r p (by simp only [memS, over, hU]; rw [e1]; exact h)
      obtain ⟨x, nn, ⟨rfl, rfl⟩, hd⟩ := pin_dop (lk' := e.mem.loc) (rk' := rk) (fun l cs h => by rw [hem]; exact hle.1 l cs h) hrk2 _ (hq hyes)
      have hfresh : Fresh (memS s L U hend fun q => listed.getD q false) i.d.n := by
        refine over_fresh (mS_fresh (ds L) 0 s.mem (hfr0 i.d (List.mem_of_getElem? (hdget j i hi))) fun k i' hk hs => ?_) (haway i.d (List.mem_of_getElem? (hdget j i hi)))
        rw [Nat.zero_add] at hs
        have hkj : k ≠ j := by intro e; subst e; rw [hSj] at hs; cases hs
        obtain ⟨hk1, hk2⟩ := List.getElem?_eq_some_iff.1 hk
        obtain ⟨hj1, hj2⟩ := List.getElem?_eq_some_iff.1 (hdget j i hi)
        rcases Nat.lt_or_gt_of_ne hkj with h | h
        · have := List.pairwise_iff_getElem.1 hpw k j hk1 hj1 h
          rw [hk2, hj2] at this
          exact this
        · have := List.pairwise_iff_getElem.1 hpw j k hj1 hk1 h
          rw [hk2, hj2] at this
          exact this.symm
      refine Oper.wp_mono (fun a' w' hp => ?_) (sound_q (Q := Q) (lk := e.mem.loc) (rk := rk) (ρ := opd frj) hT D.core hlk1 hrk1 (i.d.o.dst.getD 0) (fun x hx => ?_) (fun x nn hh => by rw [hh.2]; exact hfresh) (dop_q hd))
      · obtain ⟨x, nn, v, m', ⟨rfl, rfl⟩, rfl, C', g, hv⟩ := hp
        exact hput m' v w' C' (fun x u h => g.vrel D.core.xlt h) hv
      · cases x with
        | const c => exact crel_cOf _ _ _ _ c
        | global g => trivial
        | func f => exact ⟨[], rfl, rfl, fun i u h => by simp at h⟩
        | tmp t =>
          have ht : t ∈ i.d.o.looksAt ops := List.mem_append_left _ (List.mem_filterMap.2 ⟨.tmp t, hx, rfl⟩)
          rcases hlookR t ht with ⟨v, hv1, hv2⟩ | hany
          · have e1 : a.eval (.tmp t) = v := by simp [Act.eval, hv1]
            rw [e1]; exact hv2
          · show VRel _ _ _ _ (fget frj t) _
            rw [hany]; trivial

end

/-! ### The walk in text order -/
def awayB (U : List Nat) : NObj → Bool
  | .rows L => allb (fun p => !memN p.1 U) L
  | _ => true
def subB (U : List Nat) (h : Hid) : Bool := allb (fun p => memN p.1 U) h
def noneB (U : List Nat) (l : List (Nat × (Nat × Row))) : Bool := allb (fun p => !memN p.1 U) l
theorem allb_spec {α : Type _} {f : α → Bool} : ∀ {l : List α}, allb f l = true → ∀ x ∈ l, f x = true
  | [], _, x, hx => by cases hx
  | y :: l, h, x, hx => by
    unfold allb at h
    split at h
    case h_2 => cases h
    rename_i hy
    rcases List.mem_cons.1 hx with rfl | hx
    · exact hy
    · exact allb_spec h x hx
theorem lget_none_of {β : Type _} {l : List (Nat × β)} {r : Nat} (h : ∀ p ∈ l, p.1 ≠ r) : lget l r = none := by
  cases hl : lget l r with
  | none => rfl
  | some v => exact absurd rfl (h _ (lget_mem hl))
theorem away_of {U : List Nat} {n : NObj} (h : awayB U n = true) : Away U n := by
  cases n with
  | rows L =>
    intro r hr
    refine lget_none_of fun p hp e => ?_
    have := allb_spec h p hp
    rw [e, hr] at this
    cases this
  | _ => trivial
theorem none_of {U : List Nat} {l : List (Nat × (Nat × Row))} (h : noneB U l = true) : ∀ r, memN r U = true → lget l r = none := fun r hr => by
  refine lget_none_of fun p hp e => ?_
  have := allb_spec h p hp
  rw [e, hr] at this
  cases this
theorem sub_of {U : List Nat} {h : Hid} (hs : subB U h = true) : ∀ r, memN r U = false → lget h r = none := fun r hr => by
  refine lget_none_of fun p hp e => ?_
  have := allb_spec hs p hp
  rw [e, hr] at this
  cases this

def dseqB (P : Program) (T : TypeId → Ty) (ops : List Oper) (U bs lates : List Nat) : List Oper → Nat → St → Hid → (St → Prop) → Prop
  | [], _, s, h, K => K ⟨s.fr, s.loc, h ++ s.row⟩
  | o :: rest, j, s, h, K => match memN j bs with
    | true => match o.guard with
      | none => ∃ x h', BSem P U o s.fr h h' x ∧ (match subB U h' with
        | true => setFr s o.dst x fun s' => forceS s' fun s' => dseqB P T ops U bs lates rest (j + 1) s' h' K
        | false => False)
      | some _ => False
    | false => wguard ops o.guard s
      (fun s => dop P T (lget s.loc) (rowsFor (memN j lates) (lget s.row) U h) (opd s.fr) (o.dst.getD 0) o.op fun x n => match awayB U n with
        | true => addObj s n fun s' => setFr s' o.dst x fun s' => forceS s' fun s' => dseqB P T ops U bs lates rest (j + 1) s' h K
        | false => False)
      (fun s => setFr s o.dst (.tup []) fun s' => forceS s' fun s' => dseqB P T ops U bs lates rest (j + 1) s' h K)

theorem lget_app {β : Type _} : ∀ {l k : List (Nat × β)} {r : Nat}, lget (l ++ k) r = match lget l r with
    | some v => some v
    | none => lget k r
  | [], k, r => rfl
  | (q, v) :: l, k, r => by
    rw [List.cons_append, lget_cons, lget_cons]
    by_cases e : q = r
    · simp [e]
    · simp only [e, if_false]; exact lget_app

theorem chain_of_dseqB {P : Program} {T : TypeId → Ty} {ops : List Oper} {U bs lates : List Nat} {K : St → Prop} : ∀ (l : List Oper) {j : Nat} {s : St} {h : Hid}, (∀ r, memN r U = true → lget s.row r = none) → (∀ r, memN r U = false → lget h r = none) → dseqB P T ops U bs lates l j s h K →
    ∃ L e eF hend, (ds L).map DI.o = l ∧ K e ∧ ChainB P T ops U (fun j => memN j lates) L j s.fr s.mem h e.fr eF hend ∧ e.mem = over eF U hend ∧ ∀ q b, L[q]? = some b → b.bar = memN (j + q) bs
  | [], j, s, h, h1, h2, hd => by
    refine ⟨[], ⟨s.fr, s.loc, h ++ s.row⟩, s.mem, h, rfl, hd, ⟨rfl, rfl, rfl⟩, ?_, fun q b hq => by simp at hq⟩
    show Mem.mk _ _ = Mem.mk _ _
    congr 1
    funext r
    show lget (h ++ s.row) r = match memN r U with
      | true => lget h r
      | false => lget s.row r
    rw [lget_app]
    cases hU : memN r U with
    | true => rw [h1 r hU]; cases lget h r <;> rfl
    | false => rw [h2 r hU]
  | o :: rest, j, s, h, h1, h2, hd => by
    unfold dseqB at hd
    cases hb : memN j bs with
    | true =>
      rw [hb] at hd
      simp only at hd
      cases hg : o.guard with
      | some g => rw [hg] at hd; exact hd.elim
      | none =>
        rw [hg] at hd
        obtain ⟨x, h', hB, hd⟩ := hd
        cases hsb : subB U h' with
        | false => rw [hsb] at hd; exact hd.elim
        | true =>
          rw [hsb] at hd
          simp only at hd
          rw [setFr_iff, forceS_iff] at hd
          obtain ⟨L, e, eF, hend, e1, e2, e3, e4, e5⟩ := chain_of_dseqB rest (s := { s with fr := setO s.fr o.dst x }) h1 (sub_of hsb) hd
          refine ⟨⟨⟨o, x, .no, true⟩, true, h, h'⟩ :: L, e, eF, hend, by simp [ds, ← e1], e2, ⟨rfl, ⟨hg, rfl, rfl, hB⟩, trivial, trivial, e3⟩, e4, fun q b hq => ?_⟩
          cases q with
          | zero => simp at hq; subst hq; exact hb.symm
          | succ q => rw [show j + (q + 1) = j + 1 + q by omega]; exact e5 q b (by simpa using hq)
    | false =>
      rw [hb] at hd
      rcases guard_cases hd with ⟨hg, hd⟩ | ⟨hg, hd⟩
      · obtain ⟨x, n, hΦ, hdd⟩ := pin_dop (lk' := lget s.loc) (rk' := rowsFor (memN j lates) (lget s.row) U h) (fun _ _ h => h) (fun _ _ h => h) _ hd
        cases haw : awayB U n with
        | false => rw [haw] at hΦ; exact hΦ.elim
        | true =>
          rw [haw] at hΦ
          obtain ⟨hfresh, s', hK, hfr, hmem⟩ := addObj_spec hΦ
          rw [setFr_iff, forceS_iff] at hK
          have hrow : ∀ r, memN r U = true → lget s'.row r = none := fun r hr => by
            have e : s'.mem.row r = (s.mem.add n).row r := by rw [hmem]
            have e : lget s'.row r = (s.mem.add n).row r := e
            rw [e]
            have ha := away_of haw
            cases n with
            | no => exact h1 r hr
            | loc => exact h1 r hr
            | rows Lr =>
              show (match lget Lr r with | some R => some (0, R) | none => lget s.row r) = none
              rw [ha r hr]; exact h1 r hr
          obtain ⟨L, e, eF, hend, e1, e2, e3, e4, e5⟩ := chain_of_dseqB rest (s := { s' with fr := setO s'.fr o.dst x }) hrow h2 hK
          refine ⟨⟨⟨o, x, n, true⟩, false, h, h⟩ :: L, e, eF, hend, by simp [ds, ← e1], e2, ⟨rfl, ⟨rfl, hg, fun _ => hdd, fun h => (by cases h)⟩, hfresh, away_of haw, ?_⟩, e4, fun q b hq => ?_⟩
          · rw [← hfr, ← hmem]
            exact e3
          · cases q with
            | zero => simp at hq; subst hq; exact hb.symm
            | succ q => rw [show j + (q + 1) = j + 1 + q by omega]; exact e5 q b (by simpa using hq)
      · rw [setFr_iff, forceS_iff] at hd
        obtain ⟨L, e, eF, hend, e1, e2, e3, e4, e5⟩ := chain_of_dseqB rest (s := { s with fr := setO s.fr o.dst (.tup []) }) h1 h2 hd
        refine ⟨⟨⟨o, .tup [], .no, false⟩, false, h, h⟩ :: L, e, eF, hend, by simp [ds, ← e1], e2, ⟨rfl, ⟨rfl, hg, fun h => (by cases h), fun _ => ⟨rfl, rfl⟩⟩, trivial, trivial, e3⟩, e4, fun q b hq => ?_⟩
        cases q with
        | zero => simp at hq; subst hq; exact hb.symm
        | succ q => rw [show j + (q + 1) = j + 1 + q by omega]; exact e5 q b (by simpa using hq)

def barsB (ops : Array Oper) (n : Nat) (bs lates : List Nat) : Bool :=
  (bs.all fun q => !floatB ops n q && bs.all fun q' => !decide (q < q') || ancB ops 8 q' q) && lates.all fun j => bs.all fun q => decide (q < j) && ancB ops 8 j q
def drawBB (ops : Array Oper) (n : Nat) (bs lates : List Nat) : Bool := drawBF ops n && barsB ops n bs lates

section
variable {P : Program} {T : TypeId → Ty} {w0 w w1 : World} {X0 : Nat → Prop} {s e : St} {m m1 : Map} {a : Act} {o : Oper} {Q : Exit → Act → World → Prop} {K : St → Prop} {n : Nat}

/-- A region that draws its order, with appends to hidden rows (U) at the places bs; the operations at lates look at them when all is done. -/
theorem draw_introB (hT : TyAll P T) (hm : P.follows .mixedOrders = true) (n : Nat) (U bs lates : List Nat) {l : List Oper} (hBB : drawBB l.toArray n bs lates = true)
    (h : match noneB U s.row with
      | true => dseqB P T l U bs lates (l.take n) 0 s [] fun s' => seqops P T l (l.drop n) s' K
      | false => False) : SemDraw P l.toArray s K := by
  intro id w0 X0 m a w Q0 hQ0 R
  obtain ⟨Q, hQe⟩ : ∃ Q : Exit → Act → World → Prop, Q = fun e a w => match e with
    | .normal => Q0 .normal a w
    | _ => False := ⟨_, rfl⟩
  have hQ : ∀ s m a w, Rel w0 X0 s m a w → K s → Q .normal a w := fun s m a w R h => by rw [hQe]; exact hQ0 s m a w R h
  have hnp : ∀ c a w, ¬ Q (.panic c) a w := fun c a w h => by rw [hQe] at h; exact h
  refine Code.wp_mono (Q := Q) (fun e a w h => ?_) ?_
  · rw [hQe] at h
    cases e <;> first | exact h | exact h.elim
  unfold drawBB at hBB
  rw [Bool.and_eq_true] at hBB
  obtain ⟨hB, hbars⟩ := hBB
  unfold barsB at hbars
  simp only [Bool.and_eq_true, List.all_eq_true, Bool.or_eq_true, Bool.not_eq_true', decide_eq_true_eq, decide_eq_false_iff_not] at hbars
  obtain ⟨hb1, hb2⟩ := hbars
  cases hno : noneB U s.row with
  | false => rw [hno] at h; exact h.elim
  | true =>
  rw [hno] at h
  simp only at h
  have hnone := none_of hno
  unfold drawBF at hB
  simp only [Bool.and_eq_true, decide_eq_true_eq] at hB
  obtain ⟨⟨⟨hhead, ⟨hlt, hsink⟩, hchain⟩, hsel⟩, hseq⟩ := hB
  have hn : n ≤ l.toArray.size := by omega
  obtain ⟨L, e, eF, hend, hL, hK, hC, hem, hbe⟩ := chain_of_dseqB _ hnone (fun r _ => rfl) h
  have hbm : ∀ q b, L[q]? = some b → b.bar = true → q ∈ bs := fun q b hq hb => by
    have := hbe q b hq
    rw [hb, Nat.zero_add] at this
    exact memN_iff.1 this.symm
  have inv0 : HeadInv .any l.toArray n (Array.replicate l.toArray.size false) :=
    ⟨by simp, fun j oj _ hl => (by rw [getD_replicate_false] at hl; cases hl), fun t _ ht => getD_in (by simpa using ht) (getD_replicate_false _ _)⟩
  have hu0 : unl n (Array.replicate l.toArray.size false) = n := by
    unfold unl
    rw [List.countP_eq_length.2 (fun i hi => ?_), List.length_range]
    have hi := List.mem_range.1 hi
    have : i < l.toArray.size := by omega
    simp at this
    simp [this]
  refine wp_region_any hm ?_
  have H := draw_anyB (Q := Q) (ops := l.toArray) (n := n) (L := L) (s := s) (e := e) (w0 := w0) (X0 := X0) hT hhead hn ?_ hnp hsel (by simpa using hL) (by simpa using hC) hem (fun q b hq hb => (hb1 q (hbm q b hq hb)).1) (fun q q' b b' hq hq' hb hb' hlt => ⟨8, ((hb1 q (hbm q b hq hb)).2 q' (hbm q' b' hq' hb')).resolve_left (fun hn => hn hlt)⟩) (fun j hj q b hq hb => ⟨(hb2 j (memN_iff.1 hj) q (hbm q b hq hb)).1, 8, (hb2 j (memN_iff.1 hj) q (hbm q b hq hb)).2⟩) (fun m' a' w' R' => ?_) n (Array.replicate l.toArray.size false) m a { w with drawn := w.drawn + 1 } hu0 inv0 ?_
  · rw [show n + (l.toArray.size - n) = l.toArray.size by omega] at H
    exact H
  · intro listed inv j hj hge i hi hun
    obtain ⟨hjun, oj, hoj, hedges⟩ := mem_ready.1 hj
    have hjsz := (Array.getElem?_eq_some_iff.1 hoj).1
    have hjn : j = n := by
      rcases Nat.lt_or_ge n j with h | h
      · exfalso
        have h1 := List.all_eq_true.1 hchain j (List.mem_range.2 hjsz)
        simp only [Bool.or_eq_true, decide_eq_true_eq] at h1
        rcases h1 with h1 | h1
        · omega
        · obtain ⟨oj', hoj', e', he, hb, hon⟩ := Region.waitsFor_spec h1
          rw [hoj] at hoj'
          cases hoj'
          have h2 := hedges e' he hb
          rw [hon] at h2
          have h3 := inv.tail (j - 1) (by omega) (by omega)
          rw [getD_true h3] at h2
          cases h2
      · omega
    subst hjn
    have key : ∀ d i, j - i = d → i < j → floatB l.toArray j i = false → listed.getD i false = true := by
      intro d
      induction d using Nat.strongRecOn with
      | _ d ih =>
        intro i hd hi hnf
        have h1 := List.all_eq_true.1 hsink i (List.mem_range.2 hi)
        rw [hnf, Bool.false_or] at h1
        obtain ⟨k, hk, hw⟩ := List.any_eq_true.1 h1
        simp only [Bool.and_eq_true, Bool.or_eq_true, decide_eq_true_eq, Bool.not_eq_true'] at hw
        have hk := List.mem_range.1 hk
        obtain ⟨ok, hok, e', he, hb, hon⟩ := Region.waitsFor_spec hw.2
        by_cases hkj : k = j
        · subst hkj
          rw [hoj] at hok
          cases hok
          rw [← hon]; exact hedges e' he hb
        · have h2 := ih (j - k) (by omega) k rfl (by omega) (hw.1.2.resolve_left hkj)
          rw [← hon]; exact inv.closed k ok hok h2 e' he hb
    cases hf : floatB l.toArray j i with
    | true => rfl
    | false =>
      have := key _ i rfl hi hf
      rw [getD_true hun] at this
      cases this
  · have hw := sound_seqops (P := P) (w0 := w0) (X0 := X0) (Q := Q) hT (fun s m a w R h => hQ s m a w R h) (l.drop n) R' hK
    have h2 := wpAny_of_seq (md := .any) (Q' := Q) (l.drop n) n (Array.replicate n true ++ Array.replicate (l.toArray.size - n) false) a' w' (fun j => by simp [List.getElem?_drop]) (by rw [List.length_drop]; simpa using hseq) hw
    rw [List.length_drop] at h2
    simpa using h2
  · obtain ⟨C, hfr, hd⟩ := R
    have hb : Below w.heap.size w { w with drawn := w.drawn + 1 } := ⟨rfl, rfl, rfl, Nat.le_refl _, fun _ _ => rfl⟩
    have g := grow_below s.mem m hb
    have hSf : ∀ q, (Array.replicate l.toArray.size false).getD q false = false := fun q => getD_replicate_false _ _
    have hmS0 : mS (fun q => (Array.replicate l.toArray.size false).getD q false) (ds L) 0 s.mem = s.mem := by
      have : ∀ (L : List DI) (j : Nat) (F : Mem), mS (fun q => (Array.replicate l.toArray.size false).getD q false) L j F = F := by
        intro L
        induction L with
        | nil => intro j F; rfl
        | cons i L ih => intro j F; unfold mS; rw [hSf j]; exact ih (j + 1) F
      exact this (ds L) 0 s.mem
    have hh0 : hS (fun q => (Array.replicate l.toArray.size false).getD q false) hend L 0 = [] := by
      cases L with
      | nil => exact hC.2.2.symm
      | cons i L => rw [hS_at 0 i hC rfl (Nat.le_refl _) rfl (fun q b _ _ hq => by omega) (fun q b _ _ _ => hSf _)]; exact hC.1
    have hmS : memS s L U hend (fun q => (Array.replicate l.toArray.size false).getD q false) = s.mem := by
      unfold memS
      rw [hmS0, hh0]
      show Mem.mk _ _ = Mem.mk _ _
      congr 1
      funext r
      show (match memN r U with
        | true => lget [] r
        | false => lget s.row r) = lget s.row r
      cases hU : memN r U with
      | true => rw [hnone r hU]; rfl
      | false => rfl
    have hlen := hfr.length
    refine ⟨by rw [hmS]; exact C.of_below hb, by simpa using hlen.symm, fun t v hv => ?_, hd⟩
    rw [hmS, vS_none (ds L) 0 _ (fun k i _ _ => hSf _)]
    have := fget_rel t hfr
    rw [List.getD_eq_getElem?_getD] at this
    have hv' : a.tmps.toList[t]? = some v := by simpa using hv
    rw [hv'] at this
    exact g.vrel C.xlt this

/-- An empty slice of one's own is made. -/
theorem bsem_lit (hT : TyAll P T) {U : List Nat} {o : Oper} {fr : List AVal} {h : Hid} {t d e k bytes : Nat} {z : List Value} (α : Type) (cell : α → Nat → CVal) (ho : o.op = .buildSlice t 0 #[]) (hd : o.dst = some d) (hTt : T t = .sl e k bytes z) (hk : 1 ≤ k) (hU : memN d U = true) (hh : lget h d = none) :
    BSem P U o fr h ((d, (0, ⟨α, k, cell, e, []⟩)) :: h) (.p (.one (.own d 0))) := by
  intro w0 X0 F m a w Q C hF hy
  have hfr : ∀ (x : AVal) (n : NObj), (x = .p (.one (.own d 0)) ∧ n = .rows [(d, ⟨α, k, cell, e, []⟩)]) → Fresh F n := fun x n hh' => by
    rw [hh'.2]
    intro r R hr
    obtain ⟨rfl, _⟩ := lget_one d _ r hr
    rw [hF r hU]; exact hh
  refine Oper.wp_mono (fun a' w' hp => ?_) (sound_slit (Q := Q) (rk := F.row) (ρ := opd fr) (d := d) hT C (fun _ _ h => h) ho hfr (fun x hx => by simp at hx) (Φ := fun x n => x = .p (.one (.own d 0)) ∧ n = .rows [(d, ⟨α, k, cell, e, []⟩)]) ?_)
  · obtain ⟨x, n, v, m', ⟨rfl, rfl⟩, rfl, C', g, hv⟩ := hp
    have e1 : F.add (.rows [(d, ⟨α, k, cell, e, []⟩)]) = over F U ((d, (0, ⟨α, k, cell, e, []⟩)) :: h) := by
      show Mem.mk _ _ = Mem.mk _ _
      congr 1
      funext r
      show (match lget [(d, (⟨α, k, cell, e, []⟩ : Row))] r with
        | some R => some (0, R)
        | none => F.row r) = match memN r U with
        | true => lget ((d, (0, (⟨α, k, cell, e, []⟩ : Row))) :: h) r
        | false => F.row r
      rw [lget_cons, lget_cons]
      by_cases er : d = r
      · subst er; simp [hU]
      · simp only [er, if_false]
        cases hr : memN r U with
        | true => rw [← hF r hr]; rfl
        | false => rfl
    rw [e1] at C' g hv
    exact ⟨m', v, rfl, C', g, hv⟩
  · unfold qslit
    rw [hTt]
    exact ⟨α, cell, [], rfl, ⟨hk, by omega⟩, by simp [rowCells], rfl, rfl⟩

/-- An append to a hidden row of what is only read. -/
theorem bsem_append (hT : TyAll P T) {U : List Nat} {o : Oper} {fr : List AVal} {h : Hid} {t r ver e k bytes : Nat} {z : List Value} {x y : Operand} {R : Row} {ys : List R.α} (ho : o.op = .call ⟨.builtin .append, #[x, y], #[t, t]⟩) (hTt : T t = .sl e k bytes z) (hk1 : 1 ≤ k)
    (hx : opd fr x = .p (.one (.own r ver))) (hU : memN r U = true) (hh : lget h r = some (ver, R)) (he : R.e = e) (hk : R.k = k) (hy : opd fr y = .c (.sl R.α R.k R.cell ys)) (h63 : R.xs.length + ys.length ≤ 9223372036854775807) (hbytes : (R.xs.length + ys.length) * bytes ≤ 140737488355328) :
    BSem P U o fr h ((r, (ver + 1, { R with xs := R.xs ++ ys })) :: h) (.p (.one (.own r (ver + 1)))) := by
  intro w0 X0 F m a w Q C hF hops
  subst he hk
  obtain ⟨hu, ei, zv, hei, hz, hzs, hsz, hby⟩ := sl_info hT hTt
  have hr : F.row r = some (ver, R) := by rw [hF r hU]; exact hh
  have hxv0 := hops x (by rw [ho]; simp [Op.operands, Call.operands])
  have hyv := hops y (by rw [ho]; simp [Op.operands, Call.operands])
  rw [hx] at hxv0
  rw [hy] at hyv
  obtain ⟨ver0, R0, hrow0, _, hxp⟩ := hxv0
  rw [hr] at hrow0
  simp only [Option.some.injEq, Prod.mk.injEq] at hrow0
  obtain ⟨e1, e2⟩ := hrow0
  subst e1 e2
  have hxv := hxp rfl
  have hexec : ∀ v' w', (Builtin.append_ #[t, t] o.type #[a.eval x, a.eval y]).run P w = .ok v' w' → (execOp a.eval o).run P w = .ok (.value v') w' := by
    intro v' w' hr
    simp [execOp, ho, resolve, invoke, builtin, hr]
  obtain ⟨cells, hraw, hcells⟩ := raw_of_row (C.row r ver R hr)
  have hyv : Rep w (Bad X0 F m) (.sl R.α R.k R.cell ys) (a.eval y) := hyv
  obtain ⟨news, hS, hnews⟩ := src_of_rep hyv
  obtain ⟨v', w', hrun, hraw', hg, hblk⟩ := run_append_raw (P := P) t o.type R.e ei zv R.k w0.heap.size hu hei hz hsz hzs hk1 (m.rv r) R.xs.length cells hraw (a.eval y) ys.length news hS h63 (by rw [hby]; exact hbytes) C.below.size
  rw [hxv] at hexec
  have hmono : ∀ {x : CVal} {u : Value}, Rep w (Bad X0 F m) x u → Rep w' (fun b => Bad X0 F m b ∨ v'.ownBlock = some b) x u := fun hru =>
    Rep.mono (fun b hb hn => ⟨fun hx => hx.elim hn fun hx => by
      rcases hblk with e1 | e1
      · exact hn (.inr (.inr ⟨r, ver, R, hr, by rw [← e1]; exact hx⟩))
      · rw [e1] at hx; cases hx; omega, hg.block b hb fun e1 => hn (.inr (.inr ⟨r, ver, R, hr, e1.symm⟩))⟩) hg.size hru
  have hR : RowRel w' (fun b => Bad X0 F m b ∨ v'.ownBlock = some b) w0.heap.size { R with xs := R.xs ++ ys } v' := by
    refine row_of_raw (cells := cells ++ news) (by simpa using hraw') fun j x hj i hi => ?_
    simp only at hj hi ⊢
    have hcl : cells.length = R.xs.length * R.k := hraw.1
    by_cases hjl : j < R.xs.length
    · rw [List.getElem?_append_left hjl] at hj
      obtain ⟨u, hu, hru⟩ := hcells j x hj i hi
      have hlt := (List.getElem?_eq_some_iff.1 hu).1
      exact ⟨u, by rw [List.getElem?_append_left hlt]; exact hu, hmono hru⟩
    · rw [List.getElem?_append_right (by omega)] at hj
      obtain ⟨u, hu, hru⟩ := hnews _ x hj i hi
      have hjm : j * R.k = R.xs.length * R.k + (j - R.xs.length) * R.k := by rw [← Nat.add_mul]; congr 1; omega
      refine ⟨u, ?_, hmono hru⟩
      rw [List.getElem?_append_right (by rw [hcl]; omega), hcl, ← hu]
      congr 1; omega
  obtain ⟨C', g⟩ := core_setRow (w1 := w') C r ver (ver + 1) R { R with xs := R.xs ++ ys } v' hr (.inl (Nat.lt_succ_self _)) hg.size (fun b hb hn => hg.block b hb hn.symm) ⟨hg.os, hg.tape, hg.output⟩ (fun b hb => by
    rcases hblk with e1 | e1
    · left; rw [← e1]; exact hb
    · right; rw [e1] at hb; cases hb; exact Nat.le_refl _) hR
  have e1 : F.setRow r (ver + 1) { R with xs := R.xs ++ ys } = over F U ((r, (ver + 1, { R with xs := R.xs ++ ys })) :: h) := by
    show Mem.mk _ _ = Mem.mk _ _
    congr 1
    funext q
    show (if r = q then some (ver + 1, { R with xs := R.xs ++ ys }) else F.row q) = match memN q U with
      | true => lget ((r, (ver + 1, { R with xs := R.xs ++ ys })) :: h) q
      | false => F.row q
    rw [lget_cons]
    by_cases er : r = q
    · subst er; simp [hU]
    · simp only [er, if_false]
      cases hq : memN q U with
      | true => rw [← hF q hq]
      | false => rfl
  rw [e1] at C' g
  unfold Oper.wp
  rw [hexec _ _ hrun]
  refine ⟨m.setR r v', v', rfl, C', g, ver + 1, { R with xs := R.xs ++ ys }, ?_, Nat.le_refl _, fun _ => by simp [Map.setR]⟩
  simp [over, hU, lget_cons]
end
end Go.Fx
