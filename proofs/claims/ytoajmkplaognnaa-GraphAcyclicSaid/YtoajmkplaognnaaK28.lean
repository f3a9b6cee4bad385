/- Plain: orders and cycles. Plain: the cycle that is found is one. Index and Contains of edges; GraphAcyclic's closure. GraphAcyclic: the walk. -/
import Derived.Test.YtoajmkplaognnaaK22
import Derived.Test.YtoajmkplaognnaaK20
import Derived.Test.YtoajmkplaognnaaK19
import Derived.Test.YtoajmkplaognnaaK25
set_option linter.unusedVariables false
set_option linter.unusedSimpArgs false
set_option linter.unusedSectionVars false
namespace Go.Fx.Gr
open Go.Fx Go.Proofs

theorem nodup_on {α β : Type} {f : α → β} : ∀ {l : List α}, (∀ x ∈ l, ∀ y ∈ l, f x = f y → x = y) → l.Nodup → (l.map f).Nodup
  | [], _, _ => List.nodup_nil
  | x :: l, h, hn => by
    have hn := List.nodup_cons.1 hn
    rw [List.map_cons, List.nodup_cons]
    refine ⟨fun hm => ?_, nodup_on (fun a ha b hb => h a (List.mem_cons_of_mem _ ha) b (List.mem_cons_of_mem _ hb)) hn.2⟩
    obtain ⟨y, hy, e⟩ := List.mem_map.1 hm
    have := h y (List.mem_cons_of_mem _ hy) x List.mem_cons_self e
    exact hn.1 (this ▸ hy)
/-! ### Positions -/
theorem idx_mem {x : Int} : ∀ {l : List Int} {k : Nat}, x ∈ l → (k : Int) ≤ idx x l k ∧ idx x l k < k + l.length
  | [], _, h => by cases h
  | y :: l, k, h => by
    rw [idx]
    by_cases e : x = y
    · rw [if_pos e]; simp only [List.length_cons]; omega
    · rw [if_neg e]
      have := idx_mem (k := k + 1) ((List.mem_cons.1 h).resolve_left e)
      simp only [List.length_cons]
      omega
theorem idx_left {x b : Int} : ∀ {l : List Int} {k : Nat}, x ∈ l → idx x (l ++ [b]) k = idx x l k
  | [], _, h => by cases h
  | y :: l, k, h => by
    rw [List.cons_append, idx, idx]
    by_cases e : x = y
    · rw [if_pos e, if_pos e]
    · rw [if_neg e, if_neg e]
      exact idx_left ((List.mem_cons.1 h).resolve_left e)
theorem idx_new {b : Int} : ∀ {l : List Int} {k : Nat}, b ∉ l → idx b (l ++ [b]) k = (k : Int) + l.length
  | [], k, _ => by rw [List.nil_append, idx, if_pos rfl]; simp
  | y :: l, k, h => by
    rw [List.cons_append, idx, if_neg (fun e => h (by rw [e]; exact List.mem_cons_self)), idx_new (fun hm => h (List.mem_cons_of_mem _ hm))]
    simp only [List.length_cons]
    omega

/-! ### Orders -/
structure OrdI (n : Nat) (es : Es) (out : List Int) : Prop where
  nodup : out.Nodup
  rng : ∀ x ∈ out, 0 ≤ x ∧ x < (n : Int)
  fwd : ∀ e ∈ es, e.2 ∈ out → e.1 ∈ out ∧ idx e.1 out 0 < idx e.2 out 0
theorem OrdI.step {n : Nat} {es : Es} {out : List Int} {b : Nat} (h : OrdI n es out) (hb : b < n) (hr : rdy es out b = true) : OrdI n es (out ++ [(b : Int)]) := by
  unfold rdy at hr
  simp only [Bool.and_eq_true, Bool.not_eq_true', decide_eq_false_iff_not, List.all_eq_true, Bool.or_eq_true, decide_eq_true_eq] at hr
  obtain ⟨hb1, hb2⟩ := hr
  refine ⟨?_, fun x hx => ?_, fun e he h2 => ?_⟩
  · rw [List.nodup_append]
    refine ⟨h.nodup, by simp, fun a ha c hc e => ?_⟩
    have : c = b := by simpa using hc
    rw [e, this] at ha
    exact hb1 ha
  · rcases List.mem_append.1 hx with hx | hx
    · exact h.rng x hx
    · have : x = b := by simpa using hx
      omega
  · by_cases hm : e.2 ∈ out
    · obtain ⟨h3, h4⟩ := h.fwd e he hm
      exact ⟨List.mem_append.2 (.inl h3), by rw [idx_left h3, idx_left hm]; exact h4⟩
    · have he2 : e.2 = b := by
        rcases List.mem_append.1 h2 with h2 | h2
        · exact absurd h2 hm
        · simpa using h2
      have h3 : e.1 ∈ out := (hb2 e he).resolve_left (fun hn => hn he2)
      refine ⟨List.mem_append.2 (.inl h3), ?_⟩
      rw [idx_left h3, he2, idx_new hb1]
      have := (idx_mem (k := 0) h3).2
      omega
theorem ordF_some {n : Nat} {es : Es} : ∀ {f : Nat} {out l : List Int}, OrdI n es out → ordF n es f out = some l → OrdI n es l ∧ l.length = out.length + f
  | 0, out, l, h, he => by
    have : out = l := by simpa [ordF] using he
    subst this
    exact ⟨h, rfl⟩
  | f + 1, out, l, h, he => by
    rw [ordF] at he
    split at he
    · cases he
    · rename_i b hb
      have hbr := List.mem_range.1 (List.mem_of_find?_eq_some hb)
      obtain ⟨h1, h2⟩ := ordF_some (h.step hbr (List.find?_some hb)) he
      exact ⟨h1, by rw [h2, List.length_append]; simp; omega⟩
theorem ordF_stuck {n : Nat} {es : Es} : ∀ {f : Nat} {out : List Int}, OrdI n es out → out.length + f = n → ordF n es f out = none → ∃ out', OrdI n es out' ∧ out'.length < n ∧ ∀ b, b < n → rdy es out' b = false
  | 0, out, h, hl, he => by simp [ordF] at he
  | f + 1, out, h, hl, he => by
    rw [ordF] at he
    split at he
    · rename_i hb
      refine ⟨out, h, by omega, fun b hbn => ?_⟩
      have := List.find?_eq_none.1 hb b (List.mem_range.2 hbn)
      simpa using this
    · rename_i b hb
      have hbr := List.mem_range.1 (List.mem_of_find?_eq_some hb)
      exact ordF_stuck (h.step hbr (List.find?_some hb)) (by rw [List.length_append]; simp; omega) he
theorem ordI_nil (n : Nat) (es : Es) : OrdI n es [] := ⟨List.nodup_nil, fun x hx => (by cases hx), fun e _ h => (by cases h)⟩
theorem all_in {n : Nat} {out : List Int} (hn : out.Nodup) (hr : ∀ x ∈ out, 0 ≤ x ∧ x < (n : Int)) (hl : out.length = n) {b : Nat} (hb : b < n) : (b : Int) ∈ out := by
  refine Classical.byContradiction fun hm => ?_
  have h1 : ((b : Int) :: out).Nodup := List.nodup_cons.2 ⟨hm, hn⟩
  have h2 := nodup_len n ((((b : Int) :: out)).map Int.toNat) (by
    refine nodup_on ?_ h1
    intro x hx y hy e
    have hx' : 0 ≤ x := by
      rcases List.mem_cons.1 hx with rfl | hx
      · omega
      · exact (hr x hx).1
    have hy' : 0 ≤ y := by
      rcases List.mem_cons.1 hy with rfl | hy
      · omega
      · exact (hr y hy).1
    omega) (fun x hx => by
    obtain ⟨y, hy, rfl⟩ := List.mem_map.1 hx
    rcases List.mem_cons.1 hy with rfl | hy
    · simpa using hb
    · have := hr y hy; omega)
  simp at h2
  omega
/-- An order that is found: all edges lead forward. -/
theorem ord_fwd {n : Nat} {es : Es} (hes : inR n es) {l : List Int} (h : ordO n es = some l) : l.length = n ∧ ∀ e ∈ es, idx e.1 l 0 < idx e.2 l 0 := by
  obtain ⟨h1, h2⟩ := ordF_some (ordI_nil n es) h
  have hl : l.length = n := by simpa using h2
  refine ⟨hl, fun e he => (h1.fwd e he ?_).2⟩
  have := all_in h1.nodup h1.rng hl (b := e.2.toNat) (by have := (hes e he).2; omega)
  rwa [show ((e.2.toNat : Nat) : Int) = e.2 by have := (hes e he).2; omega] at this
theorem idx_within {es : Es} {l : List Int} (h : ∀ e ∈ es, idx e.1 l 0 < idx e.2 l 0) : ∀ {k : Nat} {a b : Int}, within es k a b = true → idx a l 0 ≤ idx b l 0 := by
  intro k
  induction k with
  | zero => intro a b hw; have : a = b := by simpa [within] using hw
            rw [this]; exact Int.le_refl _
  | succ k ih =>
    intro a b hw
    rcases within_inv hw with hw | ⟨e, he, h1, rfl⟩
    · exact ih hw
    · have := ih h1; have := h e he; omega
theorem ord_nocyc {n : Nat} {es : Es} (hes : inR n es) {l : List Int} (h : ordO n es = some l) : ∀ e ∈ es, dist n es e.2 e.1 < 0 := by
  intro e he
  obtain ⟨_, h1⟩ := ord_fwd hes h
  refine Classical.byContradiction fun hn => ?_
  have hw := (dist_nonneg (b := e.1) hes (hes e he).2).1 (by omega)
  have := idx_within h1 hw
  have := h1 e he
  omega
theorem no_ord_cyc {n : Nat} {es : Es} (hes : inR n es) (h : ordO n es = none) : ∃ e ∈ es, 0 ≤ dist n es e.2 e.1 := by
  obtain ⟨out, h1, h2, h3⟩ := ordF_stuck (ordI_nil n es) (by simp) h
  refine Classical.byContradiction fun hno => ?_
  have hnc : ∀ e ∈ es, within es n e.2 e.1 = false := fun e he => by
    cases hw : within es n e.2 e.1 with
    | false => rfl
    | true => exact absurd ⟨e, he, (dist_nonneg (b := e.1) hes (hes e he).2).2 hw⟩ hno
  have key : ∀ k (u : Nat), u < n → (u : Int) ∉ out → (List.range n).countP (fun (a : Nat) => within es n (a : Int) (u : Int)) ≤ k → False := by
    intro k
    induction k with
    | zero =>
      intro u hu _ hk
      have : 0 < (List.range n).countP (fun (a : Nat) => within es n (a : Int) (u : Int)) := List.countP_pos_iff.2 ⟨u, List.mem_range.2 hu, within_refl es n _⟩
      omega
    | succ k ih =>
      intro u hu hm hk
      have hr := h3 u hu
      unfold rdy at hr
      rw [decide_eq_false hm, Bool.not_false, Bool.true_and] at hr
      have hr' : ¬ (es.all fun e => !decide (e.2 = (u : Int)) || decide (e.1 ∈ out)) = true := by rw [hr]; simp
      rw [List.all_eq_true] at hr'
      obtain ⟨e, he, h4, h5⟩ : ∃ e ∈ es, e.2 = (u : Int) ∧ e.1 ∉ out := by
        refine Classical.byContradiction fun hn => hr' fun e he => ?_
        by_cases e1 : e.2 = (u : Int)
        · by_cases e2 : e.1 ∈ out
          · simp [e2]
          · exact absurd ⟨e, he, e1, e2⟩ hn
        · simp [e1]
      have her := hes e he
      have ea : ((e.1.toNat : Nat) : Int) = e.1 := by omega
      have hlt := countP_lt (l := List.range n) (p := fun (a : Nat) => within es n (a : Int) e.1) (q := fun (a : Nat) => within es n (a : Int) (u : Int))
        (fun x hx hp => within_n hes (by have := List.mem_range.1 hx; omega) (by rw [← h4]; exact within_step he hp)) ⟨u, List.mem_range.2 hu, within_refl es n _, by rw [← h4]; exact hnc e he⟩
      exact ih e.1.toNat (by omega) (by rw [ea]; exact h5) (by rw [ea]; omega)
  obtain ⟨u, hu, hm⟩ : ∃ u, u < n ∧ (u : Int) ∉ out := by
    refine Classical.byContradiction fun hn => ?_
    have hall : ∀ u, u < n → (u : Int) ∈ out := fun u hu => Classical.byContradiction fun hm => hn ⟨u, hu, hm⟩
    have := nodup_sub (l := (List.range n).map fun (u : Nat) => (u : Int)) (r := out) (by
      refine nodup_on ?_ List.nodup_range
      intro x _ y _ e; omega) (fun x hx => by
      obtain ⟨u, hu, rfl⟩ := List.mem_map.1 hx
      exact hall u (List.mem_range.1 hu))
    simp at this
    omega
  exact key _ u hu hm (Nat.le_refl _)
/-- There is an order exactly if there is no cycle. -/
theorem ord_min {n : Nat} {es : Es} (hes : inR n es) (hs : SortedL es) : (ordO n es).isSome = (minE n es es).isNone := by
  have hsp := minE_spec (n := n) (es := es) es hs
  cases ho : ordO n es with
  | some l =>
    have := ord_nocyc hes ho
    cases hm : minE n es es with
    | none => rfl
    | some e => rw [hm] at hsp; have := this e hsp.mem; have := hsp.cand; omega
  | none =>
    obtain ⟨e, he, hd⟩ := no_ord_cyc hes ho
    cases hm : minE n es es with
    | none => rw [hm] at hsp; have := hsp e he; omega
    | some e => rfl

/-! ### The condensation has an order -/
theorem of_same {n : Nat} {es : Es} (hes : inR n es) {x y : Int} (hx : 0 ≤ x ∧ x < (n : Int)) (hy : 0 ≤ y ∧ y < (n : Int)) : ofI n es x = ofI n es y ↔ within es n x y = true ∧ within es n y x = true := by
  obtain ⟨h0, h1⟩ := ofK_range (es := es) hes (j := x.toNat) (by omega)
  obtain ⟨i, hi⟩ : ∃ i : Nat, ofI n es x = i := ⟨(ofI n es x).toNat, by unfold ofI; omega⟩
  have hil : i < (compL n es).length := by unfold ofI at hi; omega
  have hxi := (of_iff hes hx hil).1 hi
  have hib : i < (reps n es n).length := by simpa [compL] using hil
  rw [compL_get hil, cls_mem] at hxi
  have hrm := (mem_reps.1 (List.getElem_mem hib)).1
  have bxy : both n es x.toNat y.toNat = true ↔ within es n x y = true ∧ within es n y x = true := by
    simp only [both, Bool.and_eq_true]
    rw [show ((x.toNat : Nat) : Int) = x by omega, show ((y.toNat : Nat) : Int) = y by omega]
  rw [hi, ← bxy]
  constructor
  · intro h
    have hyi := (of_iff hes hy hil).1 h.symm
    rw [compL_get hil, cls_mem] at hyi
    exact mut_trans hes (by omega) (by omega) (mut_symm hxi.2) hyi.2
  · intro h
    symm
    rw [of_iff hes hy hil, compL_get hil, cls_mem]
    exact ⟨hy, mut_trans hes hrm (by omega) hxi.2 h⟩
theorem cond_lift {n : Nat} {es : Es} (hes : inR n es) : ∀ {k : Nat} {p q : Int}, within (condL n es) k p q = true → ∀ x y : Int, (0 ≤ x ∧ x < (n : Int)) → (0 ≤ y ∧ y < (n : Int)) → ofI n es x = p → ofI n es y = q → within es n x y = true := by
  intro k
  induction k with
  | zero =>
    intro p q hw x y hx hy h1 h2
    have : p = q := by simpa [within] using hw
    exact ((of_same hes hx hy).1 (by rw [h1, h2, this])).1
  | succ k ih =>
    intro p q hw x y hx hy h1 h2
    rcases within_inv hw with hw | ⟨e, he, h3, h4⟩
    · exact ih hw x y hx hy h1 h2
    · obtain ⟨d, hd, he1, _⟩ := (condL_mem hes).1 he
      have hr := hes d hd
      have h5 := ih h3 x d.1 hx hr.1 h1 (by rw [he1])
      have h6 : ofI n es d.2 = ofI n es y := by rw [h2, ← h4, he1]
      have h7 := ((of_same hes hr.2 hy).1 h6).1
      exact within_n hes hx (within_trans (within_n hes hx (within_step hd h5)) h7)
theorem condL_in {n : Nat} {es : Es} : inR (compL n es).length (condL n es) := mkL_in _ _
theorem cond_ord {n : Nat} {es : Es} (hes : inR n es) : ∃ l, ordO (compL n es).length (condL n es) = some l := by
  cases ho : ordO (compL n es).length (condL n es) with
  | some l => exact ⟨l, rfl⟩
  | none =>
    exfalso
    obtain ⟨e, he, hd⟩ := no_ord_cyc condL_in ho
    have hw := (dist_nonneg (b := e.1) condL_in (condL_in e he).2).1 hd
    obtain ⟨d, hd1, he1, hne⟩ := (condL_mem hes).1 he
    have hr := hes d hd1
    have h1 := cond_lift hes hw d.2 d.1 hr.2 hr.1 (by rw [he1]) (by rw [he1])
    have h2 : within es n d.1 d.2 = true := within_n (k := 0 + 1) hes hr.1 (within_step hd1 (within_refl es 0 d.1))
    exact hne ((of_same hes hr.1 hr.2).2 ⟨h2, h1⟩)
end Go.Fx.Gr

namespace Go.Fx.Gr
open Go.Fx Go.Proofs

theorem dist_zero {n : Nat} {es : Es} (hes : inR n es) {a b : Int} (ha : 0 ≤ a ∧ a < n) (h : dist n es a b = 0) : a = b := by
  rcases dist_spec (b := b) hes ha with ⟨d, h9, h10⟩ | ⟨h9, _⟩
  · have hd0 : d = 0 := by omega
    subst hd0
    simpa [within] using h10.1
  · omega
theorem pathD_spec {n : Nat} {es : Es} (hes : inR n es) {b : Int} : ∀ {d : Nat} {a : Int}, 0 ≤ a ∧ a < n → dist n es a b = d →
    (∀ i, i ≤ d → ∃ x, (pathD n es b d a)[i]? = some x ∧ (0 ≤ x ∧ x < (n : Int)) ∧ dist n es x b = d - i) ∧ ∀ i, i < d → ∃ x y, (pathD n es b d a)[i]? = some x ∧ (pathD n es b d a)[i + 1]? = some y ∧ (x, y) ∈ es
  | 0, a, ha, hd => by
    refine ⟨fun i hi => ?_, fun i hi => by omega⟩
    obtain rfl : i = 0 := by omega
    exact ⟨a, rfl, ha, by rw [hd]; rfl⟩
  | d + 1, a, ha, hd => by
    have hne : a ≠ b := fun e => by rw [e, dist_self hes (by rw [← e]; exact ha)] at hd; omega
    obtain ⟨v, hv⟩ := next_some hes ha (by omega) hne
    obtain ⟨h1, h2, h3, h4⟩ := next_step hv
    obtain ⟨h5, h6⟩ := pathD_spec hes (b := b) (d := d) h3 (by omega)
    rw [pathD, h1]
    refine ⟨fun i hi => ?_, fun i hi => ?_⟩
    · cases i with
      | zero => exact ⟨a, rfl, ha, by rw [hd]; simp⟩
      | succ i =>
        obtain ⟨x, h7, h8, h9⟩ := h5 i (by omega)
        exact ⟨x, by simpa using h7, h8, by rw [h9]; omega⟩
    · cases i with
      | zero =>
        obtain ⟨x, h7, h8, h9⟩ := h5 0 (Nat.zero_le _)
        have hx : x = v := by
          cases d with
          | zero => simpa [pathD] using h7.symm
          | succ d => simpa [pathD] using h7.symm
        exact ⟨a, v, rfl, by rw [hx] at h7; simpa using h7, h2⟩
      | succ i =>
        obtain ⟨x, y, h7, h8, h9⟩ := h6 i (by omega)
        exact ⟨x, y, by simpa using h7, by simpa using h8, h9⟩

structure CycI (es : Es) (c : List Int) : Prop where
  pos : 0 < c.length
  edge : ∀ k, k < c.length → ∃ x y, c[k]? = some x ∧ c[(k + 1) % c.length]? = some y ∧ (x, y) ∈ es
  new : ∀ k x, c[k]? = some x → x ∉ c.take k
theorem cyc_is {n : Nat} {es : Es} (hes : inR n es) {e : Int × Int} (he : e ∈ es) (hc : 0 ≤ dist n es e.2 e.1) : CycI es (cycOf n es e) := by
  have hr := hes e he
  obtain ⟨d, hd⟩ : ∃ d : Nat, dist n es e.2 e.1 = d := ⟨(dist n es e.2 e.1).toNat, by omega⟩
  obtain ⟨h1, h2⟩ := pathD_spec hes hr.2 hd
  have hp : pathL n es e.2 e.1 = pathD n es e.1 d e.2 := by unfold pathL; rw [hd]; rfl
  have hpl : (pathD n es e.1 d e.2).length = d + 1 := pathD_length n es e.1 d e.2
  have hcyc : cycOf n es e = e.1 :: (pathD n es e.1 d e.2).dropLast := by unfold cycOf; rw [hp]
  have hlen : (cycOf n es e).length = d + 1 := by rw [hcyc, List.length_cons, List.length_dropLast, hpl]; omega
  have h0 : (cycOf n es e)[0]? = some e.1 := by rw [hcyc]; rfl
  have hs : ∀ i, i < d → (cycOf n es e)[i + 1]? = (pathD n es e.1 d e.2)[i]? := fun i hi => by
    rw [hcyc, List.getElem?_cons_succ, List.getElem?_dropLast, if_pos (by omega)]
  have hfirst : (pathD n es e.1 d e.2)[0]? = some e.2 := by cases d <;> rfl
  have hlast : (pathD n es e.1 d e.2)[d]? = some e.1 := by
    obtain ⟨x, h3, h4, h5⟩ := h1 d (Nat.le_refl _)
    have h6 : dist n es x e.1 = 0 := by rw [h5]; omega
    rw [h3, dist_zero hes h4 h6]
  have hdist : ∀ (i : Nat) (x : Int), (cycOf n es e)[i]? = some x → dist n es x e.1 = if i = 0 then 0 else (d : Int) + 1 - i := fun i x hx => by
    cases i with
    | zero =>
      rw [h0] at hx
      cases hx
      rw [if_pos rfl, dist_self hes hr.1]
    | succ i =>
      have hi : i + 1 < d + 1 := by rw [← hlen]; exact (List.getElem?_eq_some_iff.1 hx).1
      rw [hs i (by omega)] at hx
      obtain ⟨y, h3, _, h5⟩ := h1 i (by omega)
      rw [h3] at hx
      cases hx
      rw [h5, if_neg (by omega)]; omega
  refine ⟨by omega, fun k hk => ?_, fun k x hx hm => ?_⟩
  · rw [hlen] at hk ⊢
    by_cases hkd : k = d
    · rw [show (k + 1) % (d + 1) = 0 by rw [hkd]; exact Nat.mod_self _, h0]
      cases k with
      | zero =>
        have he2 : e.2 = e.1 := dist_zero hes hr.2 (by omega)
        exact ⟨e.1, e.1, h0, rfl, by rw [show (e.1, e.1) = e by rw [Prod.ext_iff]; exact ⟨rfl, he2.symm⟩]; exact he⟩
      | succ k =>
        obtain ⟨x, y, h3, h4, h5⟩ := h2 k (by omega)
        rw [show k + 1 = d by omega, hlast] at h4
        cases h4
        exact ⟨x, e.1, by rw [hs k (by omega)]; exact h3, rfl, h5⟩
    · rw [Nat.mod_eq_of_lt (by omega), hs k (by omega)]
      cases k with
      | zero => exact ⟨e.1, e.2, h0, hfirst, he⟩
      | succ k =>
        obtain ⟨x, y, h3, h4, h5⟩ := h2 k (by omega)
        exact ⟨x, y, by rw [hs k (by omega)]; exact h3, h4, h5⟩
  · obtain ⟨i, hi, hix⟩ := List.getElem_of_mem hm
    rw [List.length_take] at hi
    have hik : (cycOf n es e)[i]? = some x := by
      rw [List.getElem_take] at hix
      rw [← hix]; exact List.getElem?_eq_getElem (by omega)
    have e1 := hdist i x hik
    have e2 := hdist k x hx
    have hkl : k < d + 1 := by rw [← hlen]; exact (List.getElem?_eq_some_iff.1 hx).1
    rw [e1] at e2
    split at e2 <;> split at e2 <;> omega
end Go.Fx.Gr

namespace Go.Fx
open Go.Proofs Gr
set_option maxRecDepth 100000

theorem ct100 (es : List (Int × Int)) (e : Int × Int) : Ct Try.prog 100 [.one (edges es), eA e] (.c (i64 (idxF (fun x => decide (e = x)) es))) := by
  refine ct_of tyAll Try.func100 (by decide) rfl ?_
  conv => whnf
  intro hlen
  conv => whnf
  refine ⟨Nat, fun k => k ≤ es.length ∧ ∀ j, (hj : j < k) → (hj' : j < es.length) → decide (e = es[j]) = false, fun k => ⟨(sk 0 (.c (edges es) :: (sk 2 (.p (.one (.lptr 3 0)) :: (sk 2 (.c (edges es) :: (sk 0 (I es.length :: (sk 0 (I k :: (sk 10 []))))))))))), [(3, [.c (i64 e.1), .c (i64 e.2)])], []⟩, fun k => es.length - k, 0, ⟨by omega, fun j hj => by omega⟩, ?_, fun k hk => ?_⟩
  · repeat' (first | exact trivial | exact rfl | refine And.intro ?_ ?_)
  obtain ⟨hk, hp⟩ := hk
  conv => whnf
  refine acond_split (fun h1 => ?_) (fun h1 => ?_)
  · have h1 := dec h1
    conv => whnf
    have hlt : k < es.length := by omega
    refine draw_intro tyAll mixed 6 (by kernel_rfl) ?_
    conv => whnf
    refine ⟨es[k], by omega, List.getElem?_eq_getElem hlt, ?_⟩
    conv => whnf
    refine ⟨_, eqAgg32 e es[k], ?_⟩
    conv => whnf
    refine acond_split (fun h2 => ?_) (fun h2 => ?_)
    · conv => whnf
      refine ⟨?_, trivial⟩
      exact congrArg i64 (idxF_at (p := fun x => decide (e = x)) hlt h2 fun j hj => hp j hj (by omega))
    · conv => whnf
      refine ⟨_, wi _ (by omega) (by omega), ?_⟩
      conv => whnf
      refine ⟨k + 1, ⟨by omega, fun j hj hj' => ?_⟩, by show es.length - (k + 1) < es.length - k; omega, ?_⟩
      · rcases Nat.lt_or_ge j k with h | h
        · exact hp j h hj'
        · obtain rfl : j = k := by omega
          exact h2
      repeat' (first | exact trivial | exact rfl | refine And.intro ?_ ?_)
  · have h1 := ndec h1
    conv => whnf
    refine ⟨?_, trivial⟩
    exact congrArg i64 (idxF_none (p := fun x => decide (e = x)) fun j hj => hp j (by omega) hj)

theorem ct61 (es : List (Int × Int)) (e : Int × Int) : Ct Try.prog 61 [.one (edges es), eA e] (.c (.bool (decide (e ∈ es)))) := by
  refine ct_of tyAll Try.func61 (by decide) rfl ?_
  conv => whnf
  refine ⟨_, ct100 es e, ?_⟩
  conv => whnf
  refine ⟨?_, trivial⟩
  show CVal.bool _ = CVal.bool _
  congr 1
  have h := idxF_nonneg (fun x => decide (e = x)) es
  have h2 : es.any (fun x => decide (e = x)) = decide (e ∈ es) := by
    rw [Bool.eq_iff_iff, List.any_eq_true, decide_eq_true_eq]
    exact ⟨fun ⟨x, hx, he⟩ => by rw [of_decide_eq_true he]; exact hx, fun h => ⟨e, h, decide_eq_true rfl⟩⟩
  exact (h.trans h2).symm

theorem ct59 (e : Int × Int) (l : List Int) : Ct Try.prog 59 [eA e, .one (.ref 1 fun i => [ints l].getD i .nil)] (.c (.bool (decide (idx e.2 l 0 ≤ idx e.1 l 0)))) := by
  refine ct_of tyAll Try.func59 (by decide) rfl ?_
  conv => whnf
  refine draw_intro tyAll mixed 10 (by kernel_rfl) ?_
  conv => whnf
  refine ⟨_, ct60 l e.1, ?_⟩
  conv => whnf
  refine ⟨_, ct60 l e.2, ?_⟩
  conv => whnf
  repeat' (first | exact trivial | exact rfl | refine And.intro ?_ ?_)
end Go.Fx

namespace Go.Fx
open Go.Proofs Gr
set_option maxRecDepth 100000

set_option maxHeartbeats 2000000 in
theorem ct9 (n : Int) (es : Es) : Ct Try.prog 9 [gA n es] (.c (.bool true)) := by
  refine ct_of tyAll Try.func9 (by decide) rfl ?_
  conv => whnf
  refine ⟨_, ct14, ?_⟩
  conv => whnf
  refine ⟨_, ct22 n es, ?_⟩
  conv => whnf
  refine acond_split (fun h1 => ?_) (fun h1 => ?_)
  · have h1 : fineB n es = false := Eq.mp (Bool.not_eq_true' _) h1
    conv => whnf
    refine ⟨_, ct14, ?_⟩
    conv => whnf
    repeat' (first | exact trivial | exact rfl | refine And.intro ?_ ?_)
  have h1 : fineB n es = true := Eq.mp (Bool.not_eq_false' _) h1
  obtain ⟨N, rfl, hN, hes, hs, hl, hc⟩ := fine_ok h1
  have hlN : (compL N es).length ≤ N := compL_length N es
  have hcc : checkG (compL N es).length (condL N es) = 0 := check_mk (by omega) _
  have h32 := ct32 N es
  have h33 := ct33 N es
  have h46 := ct46 N es
  have h32c := ct32 (compL N es).length (condL N es)
  obtain ⟨lc, hlc⟩ := cond_ord hes
  rw [ordRv, if_pos hc, Int.toNat_natCast] at h32
  rw [cycRv, if_pos hc, Int.toNat_natCast, cycL_min hes hs] at h33
  rw [condRv, if_pos hc, Int.toNat_natCast] at h46
  rw [ordRv, if_pos hcc, Int.toNat_natCast, hlc] at h32c
  have hom := ord_min hes hs
  have hfw := fun l (h : ordO N es = some l) => ord_fwd hes h
  have hcy := minE_spec (n := N) (es := es) es hs
  obtain ⟨m, hm⟩ : ∃ m, m = (compL N es).length := ⟨_, rfl⟩
  obtain ⟨cd, hcd⟩ : ∃ cd, cd = condL N es := ⟨_, rfl⟩
  obtain ⟨ol, hol⟩ : ∃ ol, ol = ofL N es := ⟨_, rfl⟩
  rw [← hm, ← hcd] at h32c h46
  rw [← hol] at h46
  clear hm hcd hol hcc hlN hlc
  cases ho : ordO N es with
  | some l =>
    obtain ⟨hll, hfwd⟩ := hfw l ho
    cases hme : minE N es es with
    | some e => rw [ho, hme] at hom; cases hom
    | none =>
      rw [ho] at h32
      rw [hme] at h33
      clear hfw hcy hom ho hme
      conv => whnf
      refine ⟨_, h32, ?_⟩
      conv => whnf
      refine ⟨_, h33, ?_⟩
      conv => whnf
      refine ⟨_, h46, ?_⟩
      conv => whnf
      refine .inl ?_
      conv => whnf
      refine ⟨_, h32c, .inl (flat_ints _ _), ?_⟩
      conv => whnf
      intro _
      conv => whnf
      refine acond_split (fun h2 => ?_) (fun h2 => ?_)
      · conv => whnf
        refine .inl ?_
        conv => whnf
        refine ⟨_, ct58 es 59 1 (fun i => [CVal.ref 1 fun i => [ints l].getD i .nil].getD i .nil) (fun e => decide (idx e.2 l 0 ≤ idx e.1 l 0)) (fun e _ => ct59 e l), .inl (flat_bool _), ?_⟩
        conv => whnf
        refine ⟨?_, trivial⟩
        show CVal.bool _ = CVal.bool _
        congr 1
        have : es.any (fun e => decide (idx e.2 l 0 ≤ idx e.1 l 0)) = false := by
          rw [List.any_eq_false]
          intro e he h
          have := hfwd e he
          have := of_decide_eq_true h
          omega
        rw [this]; rfl
      · exfalso
        have h2 : ¬ (l.length : Int) = N := of_decide_eq_false h2
        omega
  | none =>
    cases hme : minE N es es with
    | none => rw [ho, hme] at hom; cases hom
    | some e =>
      rw [hme] at hcy
      have hci := cyc_is hes hcy.mem hcy.cand
      rw [ho] at h32
      rw [hme, Option.map_some] at h33
      obtain ⟨c, hce⟩ : ∃ c, c = cycOf N es e := ⟨_, rfl⟩
      rw [← hce] at hci h33
      clear hfw hcy hom ho hme hce
      conv => whnf
      refine ⟨_, h32, ?_⟩
      conv => whnf
      refine ⟨_, h33, ?_⟩
      conv => whnf
      refine ⟨_, h46, ?_⟩
      conv => whnf
      refine .inl ?_
      conv => whnf
      refine ⟨_, h32c, .inl (flat_ints _ _), ?_⟩
      conv => whnf
      obtain ⟨hpos, hedge, hnew⟩ := hci
      intro hlen
      conv => whnf
      refine ⟨Nat, fun k => k ≤ c.length, fun k => ⟨(sk 1 (.p (.one (.lptr 1 0)) :: (sk 3 (.c (ints c) :: (sk 80 (.c (ints c) :: (sk 0 (I c.length :: (sk 0 (I k :: (sk 29 []))))))))))), [(1, [.c (i64 N), .c (edges es)])], []⟩, fun k => c.length - k, 0, by omega, ?_, fun k hk => ?_⟩
      · repeat' (first | exact trivial | exact rfl | refine And.intro ?_ ?_)
      have hk : k ≤ c.length := hk
      conv => whnf
      refine acond_split (fun h2 => ?_) (fun h2 => ?_)
      · have h2 := dec h2
        conv => whnf
        have hlt : k < c.length := by omega
        obtain ⟨x, y, hx, hy, hxy⟩ := hedge k hlt
        have hnw := hnew k x hx
        refine ⟨x, by omega, hx, ?_⟩
        conv => whnf
        refine draw_intro tyAll mixed 21 (by kernel_rfl) ?_
        conv => whnf
        refine ⟨_, wi _ (by omega) (by omega), ?_⟩
        conv => whnf
        refine ⟨(by omega : (c.length : Int) ≠ 0), (((k + 1) % c.length : Nat) : Int), (by show ((k : Int) + 1).tmod (c.length : Int) = _; rw [Int.natCast_emod, Int.tmod_eq_emod_of_nonneg (by omega)]; congr 1), ?_⟩
        conv => whnf
        refine ⟨y, by omega, hy, ?_⟩
        conv => whnf
        refine ⟨_, ct61 es (x, y), ?_⟩
        conv => whnf
        rw [show decide ((x, y) ∈ es) = true from decide_eq_true hxy]
        conv => whnf
        refine ⟨by omega, by omega, by show (k : Int) ≤ (c.length : Int); omega, ?_⟩
        conv => whnf
        refine ⟨_, ct44 ((c.take k).drop 0) x, ?_⟩
        conv => whnf
        rw [show decide (x ∈ (c.take k).drop 0) = false from decide_eq_false (by rw [List.drop_zero]; exact hnw)]
        conv => whnf
        refine ⟨_, wi _ (by omega) (by omega), ?_⟩
        conv => whnf
        refine ⟨k + 1, by show k + 1 ≤ c.length; omega, by show c.length - (k + 1) < c.length - k; omega, ?_⟩
        repeat' (first | exact trivial | exact rfl | refine And.intro ?_ ?_)
      · have h2 := ndec h2
        conv => whnf
        intro _
        conv => whnf
        refine ⟨?_, trivial⟩
        show CVal.bool _ = CVal.bool _
        congr 1
        exact (decide_eq_true (by omega)).symm
end Go.Fx
