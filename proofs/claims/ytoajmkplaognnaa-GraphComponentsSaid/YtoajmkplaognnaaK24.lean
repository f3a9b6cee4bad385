/- The engine, part 19: regions that draw their order, where some operations float behind others. -/
import Derived.Test.YtoajmkplaognnaaK3
set_option linter.unusedVariables false
set_option linter.unusedSimpArgs false
set_option linter.unusedSectionVars false
namespace Go.Fx
open Go.RowKit
set_option linter.unusedVariables false

/-- An extraction that may come later than the tail's first operations. -/
def floatB (ops : Array Oper) (n i : Nat) : Bool := match ops[i]? with
  | some oi => (match oi.guard with
    | none => true
    | some _ => false) && (match oi.op with
    | .extract _ _ => true
    | _ => false) && (List.range ops.size).all fun j => decide (j < n) || Region.waitsFor .any ops j i || (match ops[j]? with
      | some oj => oi.apart ops oj
      | none => true)
  | none => false
theorem floatB_spec {ops : Array Oper} {n i : Nat} (h : floatB ops n i = true) {oi : Oper} (ho : ops[i]? = some oi) :
    oi.guard = none ∧ ∃ y ix, oi.op = .extract y ix ∧ ∀ j oj, n ≤ j → ops[j]? = some oj → (∃ e ∈ oj.after, Region.binds .any e = true ∧ e.on = i) ∨ oi.apart ops oj = true := by
  unfold floatB at h
  simp only [ho, Bool.and_eq_true] at h
  obtain ⟨⟨h1, h2⟩, h3⟩ := h
  refine ⟨?_, ?_⟩
  · cases hg : oi.guard with
    | none => rfl
    | some g => rw [hg] at h1; cases h1
  · split at h2
    · rename_i y ix hop
      refine ⟨y, ix, hop, fun j oj hj hoj => ?_⟩
      have h4 := List.all_eq_true.1 h3 j (List.mem_range.2 (Array.getElem?_eq_some_iff.1 hoj).1)
      simp only [hoj, Bool.or_eq_true, decide_eq_true_eq] at h4
      rcases h4 with (h4 | h4) | h4
      · omega
      · obtain ⟨oj', hoj', e, he, hb, hon⟩ := Region.waitsFor_spec h4
        rw [hoj] at hoj'
        cases hoj'
        exact .inl ⟨e, he, hb, hon⟩
      · exact .inr h4
    · cases h2

/-- As drawB; an operation of the head that nothing of the tail waits for floats. -/
def drawBF (ops : Array Oper) (n : Nat) : Bool :=
  headB ops n && (decide (n < ops.size) && ((List.range n).all fun i => floatB ops n i || (List.range (n + 1)).any fun k => decide (i < k) && (decide (k = n) || !floatB ops n k) && Region.waitsFor .any ops k i) && Region.chainB .any ops n) && Region.noSelect ops && Region.seqB .any ops (ops.size - n) n (Array.replicate n true ++ Array.replicate (ops.size - n) false)

section
variable {P : Program} {T : TypeId → Ty} {w0 w w1 : World} {X0 : Nat → Prop} {s e : St} {m m1 : Map} {a : Act} {o : Oper} {Q : Exit → Act → World → Prop} {K : St → Prop} {ops : Array Oper} {n : Nat} {L : List DI}

theorem draw_anyF (hT : TyAll P T) (hB : headB ops n = true) (hn : n ≤ ops.size) (hready : ∀ listed, HeadInv .any ops n listed → ∀ j ∈ Region.ready .any ops listed, n ≤ j → ∀ i, i < n → listed.getD i true = false → floatB ops n i = true) (hnp : ∀ c a w, ¬ Q (.panic c) a w) (hsel : Region.noSelect ops = true)
    (hL : L.map DI.o = ops.toList.take n) (hC : Chain P T ops.toList L s.fr s.mem e.fr e.mem)
    (hend : ∀ m a w, Rel w0 X0 e m a w → wpAny P .any ops Q (ops.size - n) (Array.replicate n true ++ Array.replicate (ops.size - n) false) a w) :
    ∀ (u : Nat) (listed : Array Bool) (m : Map) (a : Act) (w : World), unl n listed = u → HeadInv .any ops n listed → DCfg w0 X0 s L (fun q => listed.getD q false) m a w → wpAny P .any ops Q (u + (ops.size - n)) listed a w := by
  have hlen : L.length = n := by
    rw [← List.length_map (f := DI.o), hL, List.length_take, Array.length_toList]; omega
  have hget : ∀ j oj, j < n → ops[j]? = some oj → ∃ i, L[j]? = some i ∧ i.o = oj := by
    intro j oj hj hoj
    have h1 : (L.map DI.o)[j]? = some oj := by
      rw [hL, List.getElem?_take, if_pos hj]; simpa using hoj
    rw [List.getElem?_map] at h1
    exact Option.map_eq_some_iff.1 h1
  have hinv : ∀ j i, L[j]? = some i → j < n ∧ ops[j]? = some i.o := by
    intro j i hj
    have hjn : j < n := by rw [← hlen]; exact (List.getElem?_eq_some_iff.1 hj).1
    have h1 : (L.map DI.o)[j]? = some i.o := by rw [List.getElem?_map, hj]; rfl
    rw [hL, List.getElem?_take, if_pos hjn] at h1
    exact ⟨hjn, by simpa using h1⟩
  obtain ⟨hfr0, hpw⟩ := chain_fresh hC
  intro u
  induction u with
  | zero =>
    intro listed m a w hu inv D
    have hall : ∀ i, i < n → listed.getD i true = true := by
      intro i hi
      have := (List.countP_eq_zero.1 hu) i (List.mem_range.2 hi)
      simpa using this
    have hal : ∀ i, i < n → listed.getD i false = true := by
      intro i hi
      have h1 := hall i hi
      have hsz : i < listed.size := by rw [inv.size]; omega
      simp [hsz] at h1 ⊢; exact h1
    have hlist : listed = Array.replicate n true ++ Array.replicate (ops.size - n) false := by
      apply Array.ext_getElem?
      intro i
      have hsz := inv.size
      rw [Array.getElem?_append]
      by_cases h1 : i < n
      · have hsz2 : i < listed.size := by omega
        have := hal i h1
        simp [hsz2] at this
        rw [if_pos (by simpa using h1), Array.getElem?_eq_getElem hsz2, this]
        simp [h1]
      · rw [if_neg (by simpa using h1)]
        by_cases h2 : i < ops.size
        · have hsz2 : i < listed.size := by omega
          have := inv.tail i (by omega) h2
          simp [hsz2] at this
          rw [Array.getElem?_eq_getElem hsz2, this]
          have : i - n < ops.size - n := by omega
          simp [this]
        · rw [Array.getElem?_eq_none (by omega), Array.getElem?_eq_none (by simp; omega)]
    have hS : ∀ k, 0 ≤ k → k < 0 + L.length → (fun q => listed.getD q false) k = true := fun k _ hk => hal k (by omega)
    have hmem := chain_all 0 hC hS
    obtain ⟨hlen2, hfrE⟩ := chain_end 0 hC hS
    rw [hlist, Nat.zero_add]
    refine hend m a w ⟨by rw [← hmem]; exact D.core, ?_, D.defers⟩
    rw [← hmem]
    -- the frame, slot by slot
    have hsz := D.size
    have key : ∀ (l : List AVal) (vs : List Value), l.length = vs.length → (∀ t v, vs[t]? = some v → VRel w (Bad X0 (mS (fun q => listed.getD q false) L 0 s.mem) m) (mS (fun q => listed.getD q false) L 0 s.mem) m (fget l t) v) →
        All2 (VRel w (Bad X0 (mS (fun q => listed.getD q false) L 0 s.mem) m) (mS (fun q => listed.getD q false) L 0 s.mem) m) l vs := by
      intro l
      induction l with
      | nil => intro vs h _; cases vs with
        | nil => trivial
        | cons => simp at h
      | cons x l ih => intro vs h hh; cases vs with
        | nil => simp at h
        | cons v vs => exact ⟨hh 0 v rfl, ih vs (by simpa using h) fun t u hu => hh (t + 1) u (by simpa using hu)⟩
    refine key e.fr a.tmps.toList (by rw [hlen2, Array.length_toList, hsz]) fun t v hv => ?_
    have hv : a.tmps[t]? = some v := by simpa using hv
    have ht : t < s.fr.length := by rw [← hsz]; exact (Array.getElem?_eq_some_iff.1 hv).1
    rw [hfrE t ht]
    exact D.fr t v hv
  | succ u ih =>
    intro listed m a w hu inv D
    have hleast : ∃ k, k < n ∧ listed.getD k true = false ∧ k ∈ Region.ready .any ops listed ∧ ∀ q, q < k → listed.getD q true = true := by
      have hpos : 0 < unl n listed := by omega
      obtain ⟨i, hi, hp⟩ := List.countP_pos_iff.1 hpos
      have hi := List.mem_range.1 hi
      obtain ⟨k, hk1, hk2, hk3⟩ := min_of (p := fun i => !listed.getD i true) hp
      have hkn : k < n := by omega
      have hko : k < ops.size := by omega
      refine ⟨k, hkn, by simpa using hk2, mem_ready.2 ⟨by simpa using hk2, ops[k], Array.getElem?_eq_getElem hko, fun e he hb => ?_⟩, fun q hq => by simpa using hk3 q hq⟩
      have hlt := (headB_spec hB hkn (Array.getElem?_eq_getElem hko)).1 e he hb
      have := hk3 e.on hlt
      have hsz : e.on < listed.size := by rw [inv.size]; omega
      simp [hsz] at this ⊢; exact this
    obtain ⟨k0, hk0n, hk0u, hk0r, hk0l⟩ := hleast
    have hne : Region.ready .any ops listed ≠ [] := fun h0 => by rw [h0] at hk0r; cases hk0r
    rw [show u + 1 + (ops.size - n) = (u + (ops.size - n)) + 1 by omega]
    by_cases hex : ∃ j ∈ Region.ready .any ops listed, n ≤ j
    · obtain ⟨j', hj', hjn'⟩ := hex
      have hflo := hready listed inv j' hj' hjn' k0 hk0n hk0u
      have hmain : ∀ j, j = k0 → j ∈ Region.ready .any ops listed → j < n → wpAny P .any ops Q (u + (ops.size - n) + 1) listed a w := by
        intro j hjk hj hjn
        obtain ⟨hjun, oj, hoj, hedges⟩ := mem_ready.1 hj
        obtain ⟨i, hi, rfl⟩ := hget j oj hjn hoj
        have hjs : j < listed.size := by rw [inv.size]; exact (Array.getElem?_eq_some_iff.1 hoj).1
        have inv' := inv.set hj hjn
        have hu' : unl n (listed.setIfInBounds j true) = u := by
          have := unl_set hjs hjun n hjn
          omega
        have hS' : ∀ q, (listed.setIfInBounds j true).getD q false = (listed.getD q false || (q == j)) := by
          intro q
          rw [getD_setT hjs]
          by_cases e : j = q
          · subst e; simp
          · rw [if_neg e]
            have : (q == j) = false := by simpa using Ne.symm e
            simp [this]
        have hSj : listed.getD j false = false := getD_true hjun
        have hmS := mS_set (S := fun q => listed.getD q false) (S' := fun q => (listed.setIfInBounds j true).getD q false) (k := j) hSj hS' L 0 s.mem i hpw (Nat.zero_le _) (by simpa using hi)
        have hvS := fun t => vS_set (S := fun q => listed.getD q false) (S' := fun q => (listed.setIfInBounds j true).getD q false) (k := j) (t := t) hS' L 0 (fget s.fr t) i (Nat.zero_le _) (by simpa using hi) (fun k' i' hk' hlt hd hd' => by
          rw [Nat.zero_add] at hlt ⊢
          obtain ⟨hk'n, hok'⟩ := hinv k' i' hk'
          rcases (headB_spec hB hk'n hok').2 j i.o hlt hoj with ⟨e, he, hb, hon⟩ | hap
          · show listed.getD k' false = false
            cases hs : listed.getD k' false with
            | false => rfl
            | true =>
              have := inv.closed k' i'.o hok' hs e he hb
              rw [hon, hSj] at this
              cases this
          · exact absurd hd ((Oper.apart_spec hap).2.1 t hd'))
        obtain ⟨frj, Fj, hfl, hfv, hg, hq, hno, hle⟩ := chain_at 0 j i hC (Nat.zero_le _) (by simpa using hi)
        -- what the operation looks at
        have hlook : ∀ t, t ∈ i.o.looksAt ops → t < s.fr.length → fget frj t = vS (fun q => listed.getD q false) t L 0 (fget s.fr t) := by
          intro t ht htl
          rw [hfv t htl]
          exact (agree hB hL inv hjn hoj hjun hedges ht _).symm
        have hlookR : ∀ d, d ∈ i.o.looksAt ops → (∃ v, a.tmps[d]? = some v ∧ VRel w (Bad X0 (mS (fun q => listed.getD q false) L 0 s.mem) m) (mS (fun q => listed.getD q false) L 0 s.mem) m (fget frj d) v) ∨ fget frj d = .any := by
          intro d hd
          by_cases hlt : d < s.fr.length
          · left
            have hlt2 : d < a.tmps.size := by rw [D.size]; exact hlt
            refine ⟨a.tmps[d], Array.getElem?_eq_getElem hlt2, ?_⟩
            rw [hlook d hd hlt]
            exact D.fr d _ (Array.getElem?_eq_getElem hlt2)
          · exact .inr (fget_out (by rw [hfl]; exact Nat.le_of_not_lt hlt))
        have hwant := wanted_of_gfact hg hlookR
        have hput : ∀ (m' : Map) (v : Value) (w' : World), Core w0 X0 ((mS (fun q => listed.getD q false) L 0 s.mem).add i.n) m' w' →
            (∀ (x : AVal) (u : Value), VRel w (Bad X0 (mS (fun q => listed.getD q false) L 0 s.mem) m) (mS (fun q => listed.getD q false) L 0 s.mem) m x u → VRel w' (Bad X0 ((mS (fun q => listed.getD q false) L 0 s.mem).add i.n) m') ((mS (fun q => listed.getD q false) L 0 s.mem).add i.n) m' x u) →
            VRel w' (Bad X0 ((mS (fun q => listed.getD q false) L 0 s.mem).add i.n) m') ((mS (fun q => listed.getD q false) L 0 s.mem).add i.n) m' i.x v →
            wpAny P .any ops Q (u + (ops.size - n)) (listed.setIfInBounds j true) (a.put i.o.dst v) w' := by
          intro m' v w' hC' hmono hv
          refine ih _ m' _ w' hu' inv' ⟨by rw [hmS]; exact hC', by rw [put_size]; exact D.size, fun t u' hu => ?_, by cases i.o.dst <;> exact D.defers⟩
          rw [hmS, hvS t]
          rcases put_get hu with ⟨hd, rfl⟩ | ⟨hd, hu⟩
          · rw [show (i.o.dst == some t) = true by simp [hd]]
            exact hv
          · rw [show (i.o.dst == some t) = false by simpa using hd]
            exact hmono _ _ (D.fr t u' hu)
        obtain ⟨hg0, y, ix, hox, hfar⟩ := floatB_spec (by rw [hjk]; exact hflo) hoj
        have hyes : i.yes = true := by
          cases hyes : i.yes with
          | true => rfl
          | false => rw [hyes] at hwant; unfold Region.wanted at hwant; rw [hg0] at hwant; cases hwant
        have hd := hq hyes
        unfold dop at hd
        rw [hox] at hd
        simp only [qop] at hd
        split at hd
        case h_2 => exact hd.elim
        rename_i lt hlt'
        split at hd
        case h_2 => exact hd.elim
        rename_i py hpy
        obtain ⟨hdx, hdn⟩ := hd
        have hyv : VRel w (Bad X0 (mS (fun q => listed.getD q false) L 0 s.mem) m) (mS (fun q => listed.getD q false) L 0 s.mem) m (opd frj y) (a.eval y) := by
          cases y with
          | const c => exact crel_cOf _ _ _ _ c
          | global g => trivial
          | func f => exact ⟨[], rfl, rfl, fun i u h => by simp at h⟩
          | tmp t =>
            have ht : t ∈ i.o.looksAt ops := List.mem_append_left _ (List.mem_filterMap.2 ⟨.tmp t, by rw [hox]; simp [Op.operands], rfl⟩)
            rcases hlookR t ht with ⟨v, hv1, hv2⟩ | hany
            · have e1 : a.eval (.tmp t) = v := by simp [Act.eval, hv1]
              rw [e1]; exact hv2
            · show VRel _ _ _ _ (fget frj t) _
              rw [hany]; trivial
        rw [hlt'] at hyv
        obtain ⟨vs, hev, hall⟩ := hyv
        obtain ⟨v, hv, hvr⟩ := hall.get ix hpy
        have hrun : ∀ w', (execOp a.eval i.o).run P w' = .ok (.value v) w' := fun w' => by simp [execOp, hox, hev, Instr.extract, hv]
        subst hjk
        refine wpAny_first hoj (Region.noSelect_spec hsel) (fun c a' w' h => absurd h (hnp c _ _)) (u + (ops.size - n)) listed a w (fun j1 oj1 hj1 hne1 hun1 hno1 => ?_) hj (v := v) (.inl ⟨by rw [hwant, hyes], hrun⟩) ?_
        · by_cases hj1n : j1 < n
          · have hlt1 : j < j1 := by
              rcases Nat.lt_trichotomy j j1 with h | h | h
              · exact h
              · exact absurd h.symm hne1
              · have := hk0l j1 h; rw [hun1] at this; cases this
            rcases (headB_spec hB hj1n hj1).2 j i.o hlt1 hoj with ⟨e, he, hb, hon⟩ | hap
            · exact absurd hon (hno1 e he hb)
            · exact hap
          · rcases hfar j1 oj1 (by omega) hj1 with ⟨e, he, hb, hon⟩ | hap
            · exact absurd hon (hno1 e he hb)
            · exact hap
        · refine hput m v w ?_ ?_ ?_
          · rw [← hdn]; exact D.core
          · intro x u h; rw [← hdn]; exact h
          · rw [← hdn, ← hdx]; exact hvr
      exact hmain k0 rfl hk0r hk0n
    refine ⟨fun h0 => absurd h0 hne, fun j hj => ?_⟩
    obtain ⟨hjun, oj, hoj, hedges⟩ := mem_ready.1 hj
    have hjn : j < n := by
      rcases Nat.lt_or_ge j n with h | h
      · exact h
      · exact absurd ⟨j, hj, h⟩ hex
    obtain ⟨i, hi, rfl⟩ := hget j oj hjn hoj
    have hjs : j < listed.size := by rw [inv.size]; exact (Array.getElem?_eq_some_iff.1 hoj).1
    have inv' := inv.set hj hjn
    have hu' : unl n (listed.setIfInBounds j true) = u := by
      have := unl_set hjs hjun n hjn
      omega
    have hS' : ∀ q, (listed.setIfInBounds j true).getD q false = (listed.getD q false || (q == j)) := by
      intro q
      rw [getD_setT hjs]
      by_cases e : j = q
      · subst e; simp
      · rw [if_neg e]
        have : (q == j) = false := by simpa using Ne.symm e
        simp [this]
    have hSj : listed.getD j false = false := getD_true hjun
    have hmS := mS_set (S := fun q => listed.getD q false) (S' := fun q => (listed.setIfInBounds j true).getD q false) (k := j) hSj hS' L 0 s.mem i hpw (Nat.zero_le _) (by simpa using hi)
    have hvS := fun t => vS_set (S := fun q => listed.getD q false) (S' := fun q => (listed.setIfInBounds j true).getD q false) (k := j) (t := t) hS' L 0 (fget s.fr t) i (Nat.zero_le _) (by simpa using hi) (fun k' i' hk' hlt hd hd' => by
      rw [Nat.zero_add] at hlt ⊢
      obtain ⟨hk'n, hok'⟩ := hinv k' i' hk'
      rcases (headB_spec hB hk'n hok').2 j i.o hlt hoj with ⟨e, he, hb, hon⟩ | hap
      · show listed.getD k' false = false
        cases hs : listed.getD k' false with
        | false => rfl
        | true =>
          have := inv.closed k' i'.o hok' hs e he hb
          rw [hon, hSj] at this
          cases this
      · exact absurd hd ((Oper.apart_spec hap).2.1 t hd'))
    obtain ⟨frj, Fj, hfl, hfv, hg, hq, hno, hle⟩ := chain_at 0 j i hC (Nat.zero_le _) (by simpa using hi)
    -- what the operation looks at
    have hlook : ∀ t, t ∈ i.o.looksAt ops → t < s.fr.length → fget frj t = vS (fun q => listed.getD q false) t L 0 (fget s.fr t) := by
      intro t ht htl
      rw [hfv t htl]
      exact (agree hB hL inv hjn hoj hjun hedges ht _).symm
    have hlookR : ∀ d, d ∈ i.o.looksAt ops → (∃ v, a.tmps[d]? = some v ∧ VRel w (Bad X0 (mS (fun q => listed.getD q false) L 0 s.mem) m) (mS (fun q => listed.getD q false) L 0 s.mem) m (fget frj d) v) ∨ fget frj d = .any := by
      intro d hd
      by_cases hlt : d < s.fr.length
      · left
        have hlt2 : d < a.tmps.size := by rw [D.size]; exact hlt
        refine ⟨a.tmps[d], Array.getElem?_eq_getElem hlt2, ?_⟩
        rw [hlook d hd hlt]
        exact D.fr d _ (Array.getElem?_eq_getElem hlt2)
      · exact .inr (fget_out (by rw [hfl]; exact Nat.le_of_not_lt hlt))
    have hwant := wanted_of_gfact hg hlookR
    have hput : ∀ (m' : Map) (v : Value) (w' : World), Core w0 X0 ((mS (fun q => listed.getD q false) L 0 s.mem).add i.n) m' w' →
        (∀ (x : AVal) (u : Value), VRel w (Bad X0 (mS (fun q => listed.getD q false) L 0 s.mem) m) (mS (fun q => listed.getD q false) L 0 s.mem) m x u → VRel w' (Bad X0 ((mS (fun q => listed.getD q false) L 0 s.mem).add i.n) m') ((mS (fun q => listed.getD q false) L 0 s.mem).add i.n) m' x u) →
        VRel w' (Bad X0 ((mS (fun q => listed.getD q false) L 0 s.mem).add i.n) m') ((mS (fun q => listed.getD q false) L 0 s.mem).add i.n) m' i.x v →
        wpAny P .any ops Q (u + (ops.size - n)) (listed.setIfInBounds j true) (a.put i.o.dst v) w' := by
      intro m' v w' hC' hmono hv
      refine ih _ m' _ w' hu' inv' ⟨by rw [hmS]; exact hC', by rw [put_size]; exact D.size, fun t u' hu => ?_, by cases i.o.dst <;> exact D.defers⟩
      rw [hmS, hvS t]
      rcases put_get hu with ⟨hd, rfl⟩ | ⟨hd, hu⟩
      · rw [show (i.o.dst == some t) = true by simp [hd]]
        exact hv
      · rw [show (i.o.dst == some t) = false by simpa using hd]
        exact hmono _ _ (D.fr t u' hu)
    unfold wpOp
    simp only [hoj]
    rw [hwant]
    cases hyes : i.yes with
    | false =>
      rw [if_neg (by simp)]
      obtain ⟨hx, hnn⟩ := hno hyes
      refine hput m undef w (by rw [hnn]; exact D.core) (fun x u h => by rw [hnn]; exact h) ?_
      rw [hx]
      exact undef_rel _ _
    | true =>
      rw [if_pos rfl]
      left
      obtain ⟨x, nn, ⟨rfl, rfl⟩, hd⟩ := pin_dop (lk' := e.mem.loc) (rk' := e.mem.row) hle.1 hle.2 _ (hq hyes)
      have hle2 := chain_mS (S := fun q => listed.getD q false) 0 hC (MLe.refl s.mem)
      have hfresh : Fresh (mS (fun q => listed.getD q false) L 0 s.mem) i.n := by
        refine mS_fresh L 0 s.mem (hfr0 i (List.mem_of_getElem? hi)) fun k i' hk hs => ?_
        rw [Nat.zero_add] at hs
        have hkj : k ≠ j := by intro e; subst e; rw [hSj] at hs; cases hs
        obtain ⟨hk1, hk2⟩ := List.getElem?_eq_some_iff.1 hk
        obtain ⟨hj1, hj2⟩ := List.getElem?_eq_some_iff.1 hi
        rcases Nat.lt_or_gt_of_ne hkj with h | h
        · have := List.pairwise_iff_getElem.1 hpw k j hk1 hj1 h
          rw [hk2, hj2] at this
          exact this
        · have := List.pairwise_iff_getElem.1 hpw j k hj1 hk1 h
          rw [hk2, hj2] at this
          exact this.symm
      refine Oper.wp_mono (fun a' w' hp => ?_) (sound_q (Q := Q) (lk := e.mem.loc) (rk := e.mem.row) (ρ := opd frj) hT D.core hle2.1 hle2.2 (i.o.dst.getD 0) (fun x hx => ?_) (fun x nn hh => by rw [hh.2]; exact hfresh) (dop_q hd))
      · obtain ⟨x, nn, v, m', ⟨rfl, rfl⟩, rfl, C', g, hv⟩ := hp
        exact hput m' v w' C' (fun x u h => g.vrel D.core.xlt h) hv
      · cases x with
        | const c => exact crel_cOf _ _ _ _ c
        | global g => trivial
        | func f => exact ⟨[], rfl, rfl, fun i u h => by simp at h⟩
        | tmp t =>
          have ht : t ∈ i.o.looksAt ops := List.mem_append_left _ (List.mem_filterMap.2 ⟨.tmp t, hx, rfl⟩)
          rcases hlookR t ht with ⟨v, hv1, hv2⟩ | hany
          · have e1 : a.eval (.tmp t) = v := by simp [Act.eval, hv1]
            rw [e1]; exact hv2
          · show VRel _ _ _ _ (fget frj t) _
            rw [hany]; trivial

/-- A region that draws its order, as if in text order, where extractions float. -/
theorem draw_introF (hT : TyAll P T) (hm : P.follows .mixedOrders = true) (n : Nat) {l : List Oper} (hB : drawBF l.toArray n = true) (h : dseq P T l (l.take n) s fun s' => seqops P T l (l.drop n) s' K) : SemDraw P l.toArray s K := by
  intro id w0 X0 m a w Q0 hQ0 R
  obtain ⟨Q, hQe⟩ : ∃ Q : Exit → Act → World → Prop, Q = fun e a w => match e with
    | .normal => Q0 .normal a w
    | _ => False := ⟨_, rfl⟩
  have hQ : ∀ s m a w, Rel w0 X0 s m a w → K s → Q .normal a w := fun s m a w R h => by rw [hQe]; exact hQ0 s m a w R h
  have hnp : ∀ c a w, ¬ Q (.panic c) a w := fun c a w h => by rw [hQe] at h; exact h
  refine Code.wp_mono (Q := Q) (fun e a w h => ?_) ?_
  · rw [hQe] at h
    cases e <;> first | exact h | exact h.elim
  unfold drawBF at hB
  simp only [Bool.and_eq_true, decide_eq_true_eq] at hB
  obtain ⟨⟨⟨hhead, ⟨hlt, hsink⟩, hchain⟩, hsel⟩, hseq⟩ := hB
  have hn : n ≤ l.toArray.size := by omega
  obtain ⟨L, e, hL, hK, hC⟩ := chain_of_dseq _ h
  have inv0 : HeadInv .any l.toArray n (Array.replicate l.toArray.size false) :=
    ⟨by simp, fun j oj _ hl => (by rw [getD_replicate_false] at hl; cases hl), fun t _ ht => getD_in (by simpa using ht) (getD_replicate_false _ _)⟩
  have hu0 : unl n (Array.replicate l.toArray.size false) = n := by
    unfold unl
    rw [List.countP_eq_length.2 (fun i hi => ?_), List.length_range]
    have hi := List.mem_range.1 hi
    have : i < l.toArray.size := by omega
    simp at this
    simp [this]
  refine wp_region_any hm ?_
  have H := draw_anyF (Q := Q) (ops := l.toArray) (n := n) (L := L) (s := s) (e := e) (w0 := w0) (X0 := X0) hT hhead hn ?_ hnp hsel (by simpa using hL) (by simpa using hC) (fun m' a' w' R' => ?_) n (Array.replicate l.toArray.size false) m a { w with drawn := w.drawn + 1 } hu0 inv0 ?_
  · rw [show n + (l.toArray.size - n) = l.toArray.size by omega] at H
    exact H
  · intro listed inv j hj hge i hi hun
    obtain ⟨hjun, oj, hoj, hedges⟩ := mem_ready.1 hj
    have hjsz := (Array.getElem?_eq_some_iff.1 hoj).1
    have hjn : j = n := by
      rcases Nat.lt_or_ge n j with h | h
      · exfalso
        have h1 := List.all_eq_true.1 hchain j (List.mem_range.2 hjsz)
        simp only [Bool.or_eq_true, decide_eq_true_eq] at h1
        rcases h1 with h1 | h1
        · omega
        · obtain ⟨oj', hoj', e', he, hb, hon⟩ := Region.waitsFor_spec h1
          rw [hoj] at hoj'
          cases hoj'
          have h2 := hedges e' he hb
          rw [hon] at h2
          have h3 := inv.tail (j - 1) (by omega) (by omega)
          rw [getD_true h3] at h2
          cases h2
      · omega
    subst hjn
    have key : ∀ d i, j - i = d → i < j → floatB l.toArray j i = false → listed.getD i false = true := by
      intro d
      induction d using Nat.strongRecOn with
      | _ d ih =>
        intro i hd hi hnf
        have h1 := List.all_eq_true.1 hsink i (List.mem_range.2 hi)
        rw [hnf, Bool.false_or] at h1
        obtain ⟨k, hk, hw⟩ := List.any_eq_true.1 h1
        simp only [Bool.and_eq_true, Bool.or_eq_true, decide_eq_true_eq, Bool.not_eq_true'] at hw
        have hk := List.mem_range.1 hk
        obtain ⟨ok, hok, e', he, hb, hon⟩ := Region.waitsFor_spec hw.2
        by_cases hkj : k = j
        · subst hkj
          rw [hoj] at hok
          cases hok
          rw [← hon]; exact hedges e' he hb
        · have h2 := ih (j - k) (by omega) k rfl (by omega) (hw.1.2.resolve_left hkj)
          rw [← hon]; exact inv.closed k ok hok h2 e' he hb
    cases hf : floatB l.toArray j i with
    | true => rfl
    | false =>
      have := key _ i rfl hi hf
      rw [getD_true hun] at this
      cases this
  · have hw := sound_seqops (P := P) (w0 := w0) (X0 := X0) (Q := Q) hT (fun s m a w R h => hQ s m a w R h) (l.drop n) R' hK
    have h2 := wpAny_of_seq (md := .any) (Q' := Q) (l.drop n) n (Array.replicate n true ++ Array.replicate (l.toArray.size - n) false) a' w' (fun j => by simp [List.getElem?_drop]) (by rw [List.length_drop]; simpa using hseq) hw
    rw [List.length_drop] at h2
    simpa using h2
  · obtain ⟨C, hfr, hd⟩ := R
    have hb : Below w.heap.size w { w with drawn := w.drawn + 1 } := ⟨rfl, rfl, rfl, Nat.le_refl _, fun _ _ => rfl⟩
    have g := grow_below s.mem m hb
    have hSf : ∀ q, (Array.replicate l.toArray.size false).getD q false = false := fun q => getD_replicate_false _ _
    have hmS : mS (fun q => (Array.replicate l.toArray.size false).getD q false) L 0 s.mem = s.mem := by
      have : ∀ (L : List DI) (j : Nat) (F : Mem), mS (fun q => (Array.replicate l.toArray.size false).getD q false) L j F = F := by
        intro L
        induction L with
        | nil => intro j F; rfl
        | cons i L ih => intro j F; unfold mS; rw [hSf j]; exact ih (j + 1) F
      exact this L 0 s.mem
    have hlen := hfr.length
    refine ⟨by rw [hmS]; exact C.of_below hb, by simpa using hlen.symm, fun t v hv => ?_, hd⟩
    rw [hmS, vS_none L 0 _ (fun k i _ _ => hSf _)]
    have := fget_rel t hfr
    rw [List.getD_eq_getElem?_getD] at this
    have hv' : a.tmps.toList[t]? = some v := by simpa using hv
    rw [hv'] at this
    exact g.vrel C.xlt this
end
end Go.Fx
