/- Plain: the first of the shortest cycles is one and the same. The reference's Cycle. GraphOrders: the walk. -/
import Derived.Test.YtoajmkplaognnaaK9
import Derived.Test.YtoajmkplaognnaaK12
import Derived.Test.YtoajmkplaognnaaK17
import Derived.Test.YtoajmkplaognnaaK19
set_option linter.unusedVariables false
set_option linter.unusedSimpArgs false
set_option linter.unusedSectionVars false
namespace Go.Fx.Gr
open Go.Fx Go.Proofs

/-- The first edge whose end is nearest to its start. -/
def minStep (n : Nat) (es : Es) (best : Option (Int × Int)) (e : Int × Int) : Option (Int × Int) :=
  if dist n es e.2 e.1 < 0 then best else match best with
    | none => some e
    | some b => if dist n es e.2 e.1 < dist n es b.2 b.1 then some e else some b
def minE (n : Nat) (es : Es) (l : Es) : Option (Int × Int) := l.foldl (minStep n es) none
theorem minE_snoc (n : Nat) (es l : Es) (e : Int × Int) : minE n es (l ++ [e]) = minStep n es (minE n es l) e := by
  unfold minE; rw [List.foldl_append]; rfl

theorem snoc_ind {α : Type} {p : List α → Prop} (h0 : p []) (h1 : ∀ l x, p l → p (l ++ [x])) (l : List α) : p l := by
  have : ∀ k, (l.length = k → p l) := by
    intro k
    induction k generalizing l with
    | zero => intro h; rw [List.eq_nil_of_length_eq_zero h]; exact h0
    | succ k ih =>
      intro h
      have hne : l ≠ [] := fun e => by rw [e] at h; cases h
      rw [← List.dropLast_concat_getLast hne]
      refine h1 _ _ (ih l.dropLast ?_)
      rw [List.length_dropLast]; omega
  exact this _ rfl

/-- What the first shortest one is. -/
structure MinI (n : Nat) (es l : Es) (e : Int × Int) : Prop where
  mem : e ∈ l
  cand : 0 ≤ dist n es e.2 e.1
  least : ∀ x ∈ l, 0 ≤ dist n es x.2 x.1 → dist n es e.2 e.1 ≤ dist n es x.2 x.1 ∧ (dist n es e.2 e.1 = dist n es x.2 x.1 → ¬ lt2 x e)

theorem minE_spec {n : Nat} {es : Es} : ∀ l : Es, SortedL l → match minE n es l with
    | none => ∀ x ∈ l, dist n es x.2 x.1 < 0
    | some e => MinI n es l e := by
  intro l
  induction l using snoc_ind with
  | h0 => intro _ x hx; cases hx
  | h1 l x ih =>
    intro hs
    have hs' := List.pairwise_append.1 hs
    have ih := ih hs'.1
    have hlt : ∀ y ∈ l, lt2 y x := fun y hy => hs'.2.2 y hy x (by simp)
    rw [minE_snoc]
    cases hm : minE n es l with
    | none =>
      rw [hm] at ih
      simp only at ih
      unfold minStep
      split
      · rename_i r h1
        intro y hy
        split at h1
        · rename_i h2
          rcases List.mem_append.1 hy with hy | hy
          · exact ih y hy
          · have : y = x := by simpa using hy
            rw [this]; exact h2
        · cases h1
      · rename_i r e h1
        split at h1
        · cases h1
        · rename_i h2
          cases h1
          refine ⟨by simp, by omega, fun y hy hd => ?_⟩
          rcases List.mem_append.1 hy with hy | hy
          · have := ih y hy; omega
          · have : y = x := by simpa using hy
            rw [this]; exact ⟨Int.le_refl _, fun _ => lt2_irrefl x⟩
    | some b =>
      rw [hm] at ih
      simp only at ih
      unfold minStep
      split
      · rename_i r h1
        split at h1
        · cases h1
        · simp only at h1
          split at h1 <;> cases h1
      · rename_i r e h1
        split at h1
        · rename_i h2
          cases h1
          refine ⟨by simp [ih.mem], ih.cand, fun y hy hd => ?_⟩
          rcases List.mem_append.1 hy with hy | hy
          · exact ih.least y hy hd
          · have : y = x := by simpa using hy
            rw [this] at hd; omega
        · rename_i h2
          simp only at h1
          split at h1
          · rename_i h3
            cases h1
            refine ⟨by simp, by omega, fun y hy hd => ?_⟩
            rcases List.mem_append.1 hy with hy | hy
            · have := (ih.least y hy hd).1; omega
            · have : y = x := by simpa using hy
              rw [this]; exact ⟨Int.le_refl _, fun _ => lt2_irrefl x⟩
          · rename_i h3
            cases h1
            refine ⟨by simp [ih.mem], ih.cand, fun y hy hd => ?_⟩
            rcases List.mem_append.1 hy with hy | hy
            · exact ih.least y hy hd
            · have : y = x := by simpa using hy
              rw [this]
              exact ⟨by omega, fun _ h => lt2_asymm (hlt _ ih.mem) h⟩

theorem pathL_cons {n : Nat} {es : Es} {a b : Int} : ∃ t, pathL n es a b = a :: t ∧ t.length = (dist n es a b).toNat := by
  unfold pathL
  cases h : (dist n es a b).toNat with
  | zero => exact ⟨[], rfl, rfl⟩
  | succ d => exact ⟨_, rfl, pathD_length n es b d _⟩
theorem icmp_gt {x y : Int} (h : x < y) : icmp y x = 1 := by
  unfold icmp; rw [if_neg (by omega), if_pos h]
theorem icmp_self (x : Int) : icmp x x = 0 := by
  unfold icmp; rw [if_neg (by omega), if_neg (by omega)]
theorem cycOf_length {n : Nat} {es : Es} (e : Int × Int) : (cycOf n es e).length = (dist n es e.2 e.1).toNat + 1 := by
  obtain ⟨t, h1, h2⟩ := pathL_cons (n := n) (es := es) (a := e.2) (b := e.1)
  unfold cycOf
  rw [h1]
  simp [h2]
/-- A later edge's cycle of the same length comes later. -/
theorem cyc_later {n : Nat} {es : Es} (hes : inR n es) {b e : Int × Int} (he : e ∈ es) (hd : 0 ≤ dist n es e.2 e.1) (hl : dist n es e.2 e.1 = dist n es b.2 b.1) (h : lt2 b e) : ¬ cmpL (cycOf n es e) (cycOf n es b) < 0 := by
  unfold cycOf
  rw [cmpL]
  rcases h with h | ⟨h1, h2⟩
  · rw [icmp_gt h]; simp
  · rw [← h1, icmp_self, if_pos rfl]
    obtain ⟨t, h3, h4⟩ := pathL_cons (n := n) (es := es) (a := e.2) (b := b.1)
    obtain ⟨u, h5, h6⟩ := pathL_cons (n := n) (es := es) (a := b.2) (b := b.1)
    rw [h3, h5]
    rw [← h1] at hl hd
    cases t with
    | nil =>
      exfalso
      simp only [List.length_nil] at h4
      have h7 : dist n es e.2 b.1 = 0 := by omega
      have h8 : dist n es b.2 b.1 = 0 := by omega
      have z : ∀ a : Int, 0 ≤ a ∧ a < n → dist n es a b.1 = 0 → a = b.1 := fun a ha h => by
        rcases dist_spec (b := b.1) hes ha with ⟨d, h9, h10⟩ | ⟨h9, _⟩
        · have hd0 : d = 0 := by omega
          subst hd0
          simpa [within] using h10.1
        · omega
      have z1 := z _ (hes e he).2 h7
      by_cases hb : 0 ≤ b.2
      · have := z b.2 ⟨hb, by have := (hes e he).2; omega⟩ h8; omega
      · rcases hbw : distFrom_spec (es := es) (a := b.2) (b := b.1) (f := n + 1) (k := 0) (fun j hj => by omega) with ⟨d, h9, h10, h11⟩ | ⟨h9, _⟩
        · unfold dist at h8
          have hd0 : d = 0 := by omega
          subst hd0
          have : b.2 = b.1 := by simpa [within] using h11.1
          omega
        · unfold dist at h8; omega
    | cons t0 t =>
      cases u with
      | nil => simp only [List.length_nil, List.length_cons] at h4 h6; omega
      | cons u0 u =>
        rw [List.dropLast_cons_cons, List.dropLast_cons_cons, cmpL, icmp_gt h2]
        simp

theorem better_some (l b : List Int) : better l (some b) = (decide (l.length < b.length) || (decide (l.length = b.length) && decide (cmpL l b < 0))) := rfl
theorem cyc_min {n : Nat} {es : Es} (hes : inR n es) : ∀ l : Es, SortedL l → (∀ x ∈ l, x ∈ es) → l.foldl (cycStep n es) none = (minE n es l).map (cycOf n es) := by
  intro l
  induction l using snoc_ind with
  | h0 => intro _ _; rfl
  | h1 l x ih =>
    intro hs hm
    have hs' := List.pairwise_append.1 hs
    have hlt : ∀ y ∈ l, lt2 y x := fun y hy => hs'.2.2 y hy x (by simp)
    have hsp := minE_spec (n := n) (es := es) l hs'.1
    rw [List.foldl_append, ih hs'.1 fun y hy => hm y (by simp [hy]), minE_snoc]
    show cycStep n es _ x = _
    unfold cycStep minStep
    by_cases hd : dist n es x.2 x.1 < 0
    · rw [if_pos hd, if_pos hd]
    · rw [if_neg hd, if_neg hd]
      cases hb : minE n es l with
      | none => rfl
      | some b =>
        rw [hb] at hsp
        have hc := hsp.cand
        show (if better (cycOf n es x) (some (cycOf n es b)) = true then some (cycOf n es x) else some (cycOf n es b)) = Option.map (cycOf n es) (if dist n es x.2 x.1 < dist n es b.2 b.1 then some x else some b)
        have e1 := cycOf_length (n := n) (es := es) x
        have e2 := cycOf_length (n := n) (es := es) b
        by_cases h1 : dist n es x.2 x.1 < dist n es b.2 b.1
        · rw [if_pos h1, if_pos (by
            rw [better_some, e1, e2, Bool.or_eq_true, decide_eq_true_eq]
            left; omega)]
          rfl
        · rw [if_neg h1, if_neg (by
            rw [better_some, e1, e2, Bool.or_eq_true, Bool.and_eq_true, decide_eq_true_eq, decide_eq_true_eq, decide_eq_true_eq]
            rintro (h2 | ⟨h2, h3⟩)
            · omega
            · exact cyc_later hes (hm x (by simp)) (by omega) (by omega) (hlt b hsp.mem) h3)]
          rfl
theorem cycL_min {n : Nat} {es : Es} (hes : inR n es) (hs : SortedL es) : cycL n es = (minE n es es).map (cycOf n es) := cyc_min hes es hs fun _ h => h

/-- The reference's walk around. -/
theorem walk_cyc {n : Nat} {es : Es} (hes : inR n es) {e : Int × Int} (h : MinI n es es e) : (walkL n es e.1 ((dist n es e.2 e.1).toNat + 1) e.1).take ((dist n es e.2 e.1).toNat + 1) = cycOf n es e := by
  have hr := hes e h.mem
  have hc := h.cand
  have hst : stepV n es e.1 e.1 ((dist n es e.2 e.1).toNat : Int) = e.2 := by
    unfold stepV
    have : (List.range n).find? (fun (v : Nat) => decide ((e.1, (v : Int)) ∈ es) && decide (dist n es (v : Int) e.1 = ((dist n es e.2 e.1).toNat : Int))) = some e.2.toNat := by
      rw [List.find?_range_eq_some]
      refine ⟨?_, List.mem_range.2 (by omega), fun j hj => ?_⟩
      · rw [show ((e.2.toNat : Nat) : Int) = e.2 by omega]
        simp only [Bool.and_eq_true, decide_eq_true_eq]
        exact ⟨h.mem, by omega⟩
      · simp only [Bool.not_eq_true', Bool.and_eq_false_iff, decide_eq_false_iff_not]
        by_cases hm : (e.1, (j : Int)) ∈ es
        · right
          intro hd
          have := (h.least _ hm (by show 0 ≤ dist n es (j : Int) e.1; omega)).2 (by show _ = dist n es (j : Int) e.1; omega)
          exact this (.inr ⟨rfl, by show (j : Int) < e.2; omega⟩)
        · exact .inl hm
    rw [this]
    show ((e.2.toNat : Nat) : Int) = e.2
    omega
  rw [walkL, hst, List.take_succ_cons, walk_is_path hes hr.2 (by omega)]
  unfold cycOf pathL
  rw [List.dropLast_eq_take, pathD_length]
  rfl
end Go.Fx.Gr

namespace Go.Fx
open Go.Proofs Gr
set_option maxRecDepth 100000

def rCycRv (n : Nat) (es : Es) : Rv := match minE n es es with
  | none => .tup [.one (.c .nil), .one (.c (i64 10))]
  | some e => .tup [.one (.row 0 (intsR (cycOf n es e))), .one (.c (i64 0))]
theorem rCycRv_some {n : Nat} {es : Es} {e : Int × Int} (h : minE n es es = some e) : rCycRv n es = .tup [.one (.row 0 (intsR (cycOf n es e))), .one (.c (i64 0))] := by unfold rCycRv; rw [h]
/-- What best and at say. -/
def BI (n : Nat) (es : Es) (st : Option (Int × Int)) (bs ax : Int) : Prop := match st with
  | none => bs = 0 ∧ ax = -1
  | some e => bs = dist n es e.2 e.1 + 1 ∧ ax = e.1 ∧ (0 ≤ e.1 ∧ e.1 < n) ∧ 0 ≤ dist n es e.2 e.1 ∧ dist n es e.2 e.1 ≤ 64

set_option maxHeartbeats 1000000 in
theorem ct35 (n : Nat) (hn : n ≤ 64) (es : Es) (hes : inR n es) (hs : SortedL es) (hl : es.length ≤ 1000000) : Ct Try.prog 35 [rA n es] (rCycRv n es) := by
  refine ct_of tyAll Try.func35 (by decide) rfl ?_
  obtain ⟨T, hT⟩ : ∃ T, T = tableL n es := ⟨_, rfl⟩
  have hI : IsTab n es T := by rw [hT]; exact tableL_is n es
  have h79 := ct79 n hn es hes hl
  rw [← hT] at h79
  obtain ⟨hTl, hTr⟩ := id hI
  clear hT
  conv => whnf
  refine ⟨_, h79, ?_⟩
  conv => whnf
  refine ⟨Nat × Int × Int, fun i => i.1 ≤ n ∧ BI n es (minE n es (mkP n es i.1 0)) i.2.1 i.2.2, fun i => ⟨(sk 1 (.p (.one (.lptr 1 0)) :: (sk 2 (W 11 0 :: (sk 0 (I i.2.1 :: (sk 0 (I i.2.2 :: (sk 0 (I i.1 :: (sk 66 []))))))))))), [(1, [.c (i64 n), .c (prs es)])], [(11, (0, tableR T))]⟩, fun i => n - i.1, (0, 0, -1), ⟨by simp, by simp only; rw [mkP_zero]; exact ⟨rfl, rfl⟩⟩, ?_, fun i hi => ?_⟩
  · repeat' (first | exact trivial | exact rfl | refine And.intro ?_ ?_)
  obtain ⟨a, bs, ax⟩ := i
  obtain ⟨ha, hb⟩ := hi
  simp only at ha hb
  conv => whnf
  refine acond_split (fun h1 => ?_) (fun h1 => ?_)
  · have h1 := dec h1
    conv => whnf
    have hal : a < n := by omega
    refine ⟨Nat × Int × Int, fun i => i.1 ≤ n ∧ BI n es (minE n es (mkP n es a i.1)) i.2.1 i.2.2, fun i => ⟨(sk 1 (.p (.one (.lptr 1 0)) :: (sk 2 (W 11 0 :: (sk 0 (I i.2.1 :: (sk 0 (I i.2.2 :: (sk 0 (I a :: (sk 0 (I i.1 :: (sk 65 []))))))))))))), [(1, [.c (i64 n), .c (prs es)])], [(11, (0, tableR T))]⟩, fun i => n - i.1, (0, bs, ax), ⟨by simp, hb⟩, ?_, fun i hi => ?_⟩
    · repeat' (first | exact trivial | exact rfl | refine And.intro ?_ ?_)
    clear hb
    obtain ⟨b, bs, ax⟩ := i
    obtain ⟨hbn, hb⟩ := hi
    simp only at hbn hb
    conv => whnf
    refine acond_split (fun h2 => ?_) (fun h2 => ?_)
    · have h2 := dec h2
      conv => whnf
      have hbl : b < n := by omega
      obtain ⟨hrl, hrow⟩ := hTr b (by omega)
      have hget : T[b][a]? = some (dist n es (b : Int) (a : Int)) := hrow a hal
      obtain ⟨row, hrw⟩ : ∃ row, row = T[b] := ⟨_, rfl⟩
      have hTa : T[b]? = some row := by rw [hrw]; exact List.getElem?_eq_getElem (by omega)
      rw [← hrw] at hget hrl
      clear hrow
      have hdb := dist_bound (n := n) (es := es) (a := (b : Int)) (b := (a : Int)) hes (by omega)
      obtain ⟨d, hd⟩ : ∃ d, d = dist n es (b : Int) (a : Int) := ⟨_, rfl⟩
      rw [← hd] at hget hdb
      have hsuc := mkP_succ n es a b
      have same : minE n es (mkP n es a (b + 1)) = minE n es (mkP n es a b) → BI n es (minE n es (mkP n es a (b + 1))) bs ax := fun h => by rw [h]; exact hb
      have newer : minE n es (mkP n es a (b + 1)) = some ((a : Int), (b : Int)) → 0 ≤ d → BI n es (minE n es (mkP n es a (b + 1))) (d + 1) a := fun h h0 => by
        rw [h]
        exact ⟨by rw [hd], rfl, by simp only; omega, by rw [← hd]; exact h0, by rw [← hd]; omega⟩
      refine ⟨_, ct75 n es (a : Int) (b : Int), ?_⟩
      conv => whnf
      refine acond_split (fun h3 => ?_) (fun h3 => ?_)
      · have h3 : ((a : Int), (b : Int)) ∈ es := of_decide_eq_true h3
        rw [if_pos h3] at hsuc
        rw [hsuc, minE_snoc] at same newer
        unfold minStep at same newer
        conv => whnf
        refine ⟨by omega, (by show (b : Int) < (T.length : Int); omega), ?_⟩
        conv => whnf
        refine ⟨_, hTa, ?_⟩
        conv => whnf
        refine ⟨d, by omega, hget, ?_⟩
        conv => whnf
        refine acond_split (fun h4 => ?_) (fun h4 => ?_)
        · have h4 : 0 ≤ d := of_decide_eq_true h4
          rw [if_neg (by show ¬ dist n es (b : Int) (a : Int) < 0; omega)] at same newer
          conv => whnf
          refine acond_split (fun h5 => ?_) (fun h5 => ?_)
          · have h5 : ax < 0 := of_decide_eq_true h5
            have hno : minE n es (mkP n es a b) = none := by
              cases hm : minE n es (mkP n es a b) with
              | none => rfl
              | some e => rw [hm] at hb; have := hb.2.1; have := hb.2.2.1; omega
            rw [hno] at newer
            conv => whnf
            refine ⟨by omega, (by show (b : Int) < (T.length : Int); omega), ?_⟩
            conv => whnf
            refine ⟨_, hTa, ?_⟩
            conv => whnf
            refine ⟨d, by omega, hget, ?_⟩
            conv => whnf
            refine ⟨_, wi _ (by omega) (by omega), ?_⟩
            conv => whnf
            refine ⟨_, wi _ (by omega) (by omega), ?_⟩
            conv => whnf
            refine ⟨(b + 1, d + 1, (a : Int)), ⟨by simp only; omega, ?_⟩, by show n - (b + 1) < n - b; omega, ?_⟩
            · simp only
              rw [hsuc, minE_snoc, hno]
              unfold minStep
              rw [if_neg (by show ¬ dist n es (b : Int) (a : Int) < 0; omega)]
              exact newer rfl h4
            · repeat' (first | exact trivial | exact rfl | refine And.intro ?_ ?_)
          · have h5 : ¬ ax < 0 := of_decide_eq_false h5
            obtain ⟨e, hsome⟩ : ∃ e, minE n es (mkP n es a b) = some e := by
              cases hm : minE n es (mkP n es a b) with
              | none => rw [hm] at hb; have := hb.2; omega
              | some e => exact ⟨e, rfl⟩
            have hbe := hb
            rw [hsome] at hbe same newer
            obtain ⟨he1, he2, he3, he4, he5⟩ := hbe
            simp only at same newer
            conv => whnf
            refine ⟨by omega, (by show (b : Int) < (T.length : Int); omega), ?_⟩
            conv => whnf
            refine ⟨_, hTa, ?_⟩
            conv => whnf
            refine ⟨d, by omega, hget, ?_⟩
            conv => whnf
            refine ⟨_, wi _ (by omega) (by omega), ?_⟩
            conv => whnf
            refine acond_split (fun h6 => ?_) (fun h6 => ?_)
            · have h6 : d + 1 < bs := of_decide_eq_true h6
              rw [if_pos (by show dist n es (b : Int) (a : Int) < _; omega)] at newer
              conv => whnf
              refine ⟨by omega, (by show (b : Int) < (T.length : Int); omega), ?_⟩
              conv => whnf
              refine ⟨_, hTa, ?_⟩
              conv => whnf
              refine ⟨d, by omega, hget, ?_⟩
              conv => whnf
              refine ⟨_, wi _ (by omega) (by omega), ?_⟩
              conv => whnf
              refine ⟨_, wi _ (by omega) (by omega), ?_⟩
              conv => whnf
              refine ⟨(b + 1, d + 1, (a : Int)), ⟨by simp only; omega, ?_⟩, by show n - (b + 1) < n - b; omega, ?_⟩
              · simp only
                rw [hsuc, minE_snoc, hsome]
                unfold minStep
                rw [if_neg (by show ¬ dist n es (b : Int) (a : Int) < 0; omega)]
                simp only
                rw [if_pos (by show dist n es (b : Int) (a : Int) < _; omega)]
                exact newer rfl h4
              · repeat' (first | exact trivial | exact rfl | refine And.intro ?_ ?_)
            · have h6 : ¬ d + 1 < bs := of_decide_eq_false h6
              conv => whnf
              refine ⟨_, wi _ (by omega) (by omega), ?_⟩
              conv => whnf
              refine ⟨(b + 1, bs, ax), ⟨by simp only; omega, ?_⟩, by show n - (b + 1) < n - b; omega, ?_⟩
              · simp only
                rw [hsuc, minE_snoc, hsome]
                unfold minStep
                rw [if_neg (by show ¬ dist n es (b : Int) (a : Int) < 0; omega)]
                simp only
                rw [if_neg (by show ¬ dist n es (b : Int) (a : Int) < _; omega), ← hsome]
                exact hb
              · repeat' (first | exact trivial | exact rfl | refine And.intro ?_ ?_)
        · have h4 : ¬ 0 ≤ d := of_decide_eq_false h4
          conv => whnf
          refine ⟨_, wi _ (by omega) (by omega), ?_⟩
          conv => whnf
          refine ⟨(b + 1, bs, ax), ⟨by simp only; omega, ?_⟩, by show n - (b + 1) < n - b; omega, ?_⟩
          · simp only
            rw [hsuc, minE_snoc]
            unfold minStep
            rw [if_pos (by show dist n es (b : Int) (a : Int) < 0; omega)]
            exact hb
          · repeat' (first | exact trivial | exact rfl | refine And.intro ?_ ?_)
      · have h3 : ¬ ((a : Int), (b : Int)) ∈ es := of_decide_eq_false h3
        rw [if_neg h3, List.append_nil] at hsuc
        conv => whnf
        refine ⟨_, wi _ (by omega) (by omega), ?_⟩
        conv => whnf
        refine ⟨(b + 1, bs, ax), ⟨by simp only; omega, ?_⟩, by show n - (b + 1) < n - b; omega, ?_⟩
        · simp only
          rw [hsuc]
          exact hb
        · repeat' (first | exact trivial | exact rfl | refine And.intro ?_ ?_)
    · have h2 := ndec h2
      conv => whnf
      have hbe : b = n := by omega
      subst hbe
      refine ⟨_, wi _ (by omega) (by omega), ?_⟩
      conv => whnf
      refine ⟨(a + 1, bs, ax), ⟨by simp only; omega, ?_⟩, by show b - (a + 1) < b - a; omega, ?_⟩
      · simp only
        rw [mkP_next]
        exact hb
      · repeat' (first | exact trivial | exact rfl | refine And.intro ?_ ?_)
  · have h1 := ndec h1
    conv => whnf
    have hae : a = n := by omega
    subst hae
    rw [mkP_all, mkL_fix hes hs] at hb
    have hsp := minE_spec (n := a) (es := es) es hs
    refine acond_split (fun h2 => ?_) (fun h2 => ?_)
    · have h2 := dec h2
      conv => whnf
      have h2 : ax < 0 := h2
      have hm : minE a es es = none := by
        cases hm : minE a es es with
        | none => rfl
        | some e => rw [hm] at hb; have := hb.2.1; have := hb.2.2.1; omega
      unfold rCycRv
      rw [hm]
      repeat' (first | exact trivial | exact rfl | refine And.intro ?_ ?_)
    · have h2 := ndec h2
      conv => whnf
      have h2 : ¬ ax < 0 := h2
      obtain ⟨e, hm⟩ : ∃ e, minE a es es = some e := by
        cases hm : minE a es es with
        | none => rw [hm] at hb; have := hb.2; omega
        | some e => exact ⟨e, rfl⟩
      rw [rCycRv_some hm]
      rw [hm] at hb hsp
      obtain ⟨hb1, hb2, hb3, hb4, hb5⟩ := hb
      simp only at hsp
      obtain ⟨d, hd⟩ : ∃ d : Nat, dist a es e.2 e.1 = d := ⟨(dist a es e.2 e.1).toNat, by omega⟩
      have hw := ct80 a hn es T hI e.1 e.1 hb3 (d + 1) (by omega)
      have hwc := walk_cyc hes hsp
      rw [hd] at hwc hb1 hb5
      rw [show (d : Int).toNat = d from rfl] at hwc
      have hwl := walkL_length a es e.1 (d + 1) e.1
      obtain ⟨wl, hwle⟩ : ∃ wl, wl = walkL a es e.1 (d + 1) e.1 := ⟨_, rfl⟩
      obtain ⟨cy, hcy⟩ : ∃ cy, cy = cycOf a es e := ⟨_, rfl⟩
      rw [← hwle] at hw hwc hwl
      rw [← hcy] at hwc ⊢
      clear hwle hcy hsp hm
      obtain rfl : bs = ((d + 1 : Nat) : Int) := by omega
      subst hb2
      refine .inl ?_
      conv => whnf
      refine ⟨_, hw, .inl (fun x i => flat_int _ _), ?_⟩
      conv => whnf
      refine ⟨by omega, by show (0 : Int) ≤ ((d + 1 : Nat) : Int); omega, by show ((d + 1 : Nat) : Int) ≤ (wl.length : Int); omega, ?_⟩
      conv => whnf
      repeat' (first | exact trivial | exact rfl | refine And.intro ?_ ?_)
      show intsR cy = intsR ((wl.take (d + 1)).drop 0)
      rw [List.drop_zero, hwc]
end Go.Fx

namespace Go.Fx
open Go.Proofs Gr
set_option maxRecDepth 100000

def pairC {α : Type} (o : Option α) (yes : α → CVal) : CVal := match o with
  | none => .nil
  | some x => yes x

set_option maxHeartbeats 2000000 in
theorem ct5 (n : Int) (es : Es) : Ct Try.prog 5 [gA n es] (.c (.bool true)) := by
  refine ct_of tyAll Try.func5 (by decide) rfl ?_
  conv => whnf
  refine ⟨_, ct14, ?_⟩
  conv => whnf
  refine ⟨_, ct22 n es, ?_⟩
  conv => whnf
  refine acond_split (fun h1 => ?_) (fun h1 => ?_)
  · have h1 : fineB n es = false := Eq.mp (Bool.not_eq_true' _) h1
    conv => whnf
    refine ⟨_, ct14, ?_⟩
    conv => whnf
    repeat' (first | exact trivial | exact rfl | refine And.intro ?_ ?_)
  have h1 : fineB n es = true := Eq.mp (Bool.not_eq_false' _) h1
  obtain ⟨N, rfl, hN, hes, hs, hl, hc⟩ := fine_ok h1
  conv => whnf
  have h32 := ct32 N es
  have h33 := ct33 N es
  have h34 := ct34 N (by omega) es hes (by omega)
  have h35 := ct35 N (by omega) es hes hs (by omega)
  rw [ordRv, if_pos hc, Int.toNat_natCast] at h32
  rw [cycRv, if_pos hc, Int.toNat_natCast, cycL_min hes hs] at h33
  rw [rOrdRv] at h34
  rw [rCycRv] at h35
  obtain ⟨o, ho⟩ : ∃ o, o = ordO N es := ⟨_, rfl⟩
  obtain ⟨m, hm⟩ : ∃ m, m = minE N es es := ⟨_, rfl⟩
  rw [← ho] at h32 h34
  rw [← hm] at h33 h35
  clear ho hm
  rcases o with _ | l
  · rcases m with _ | e
    · refine ⟨_, ct24 N es (by omega), ?_⟩
      conv => whnf
      refine .inl ?_
      conv => whnf
      refine ⟨_, h32, .inl (flat_err _), ?_⟩
      conv => whnf
      refine ⟨_, ct24 N es (by omega), ?_⟩
      conv => whnf
      refine .inr (.inl ?_)
      conv => whnf
      refine ⟨_, h33, ?_⟩
      conv => whnf
      refine ⟨_, ct26 N es (by omega), ?_⟩
      conv => whnf
      refine .inl ?_
      conv => whnf
      refine ⟨_, h34, .inl (flat_err _), ?_⟩
      conv => whnf
      refine ⟨_, ct26 N es (by omega), ?_⟩
      conv => whnf
      refine .inl ?_
      conv => whnf
      refine ⟨_, h35, .inl (flat_err _), ?_⟩
      conv => whnf
      refine ⟨_, ct29_nil, ?_⟩
      conv => whnf
      refine ⟨_, ct29_nil, ?_⟩
      conv => whnf
      repeat' (first | exact trivial | exact rfl | refine And.intro ?_ ?_)
    · obtain ⟨c, hcy⟩ : ∃ c, c = cycOf N es e := ⟨_, rfl⟩
      rw [Option.map_some, ← hcy] at h33
      have h35 : Ct Try.prog 35 [rA N es] (.tup [.one (.row 0 (intsR (cycOf N es e))), .one (.c (i64 0))]) := h35
      rw [← hcy] at h35
      refine ⟨_, ct24 N es (by omega), ?_⟩
      conv => whnf
      refine .inl ?_
      conv => whnf
      refine ⟨_, h32, .inl (flat_err _), ?_⟩
      conv => whnf
      refine ⟨_, ct24 N es (by omega), ?_⟩
      conv => whnf
      refine .inr (.inl ?_)
      conv => whnf
      refine ⟨_, h33, ?_⟩
      conv => whnf
      refine ⟨_, ct26 N es (by omega), ?_⟩
      conv => whnf
      refine .inl ?_
      conv => whnf
      refine ⟨_, h34, .inl (flat_err _), ?_⟩
      conv => whnf
      refine ⟨_, ct26 N es (by omega), ?_⟩
      conv => whnf
      refine .inl ?_
      conv => whnf
      refine ⟨_, h35, .inl (flat_ints _ _), ?_⟩
      conv => whnf
      refine ⟨_, ct29_nil, ?_⟩
      conv => whnf
      refine .inl ?_
      conv => whnf
      refine ⟨_, ct29 c c, .inl (flat_bool _), ?_⟩
      conv => whnf
      rw [show decide (c = c) = true from decide_eq_true rfl]
      conv => whnf
      repeat' (first | exact trivial | exact rfl | refine And.intro ?_ ?_)
  · rcases m with _ | e
    · refine ⟨_, ct24 N es (by omega), ?_⟩
      conv => whnf
      refine .inl ?_
      conv => whnf
      refine ⟨_, h32, .inl (flat_ints _ _), ?_⟩
      conv => whnf
      refine ⟨_, ct24 N es (by omega), ?_⟩
      conv => whnf
      refine .inr (.inl ?_)
      conv => whnf
      refine ⟨_, h33, ?_⟩
      conv => whnf
      refine ⟨_, ct26 N es (by omega), ?_⟩
      conv => whnf
      refine .inl ?_
      conv => whnf
      refine ⟨_, h34, .inl (flat_ints _ _), ?_⟩
      conv => whnf
      refine ⟨_, ct26 N es (by omega), ?_⟩
      conv => whnf
      refine .inl ?_
      conv => whnf
      refine ⟨_, h35, .inl (flat_err _), ?_⟩
      conv => whnf
      refine .inl ?_
      conv => whnf
      refine ⟨_, ct29 l l, .inl (flat_bool _), ?_⟩
      conv => whnf
      rw [show decide (l = l) = true from decide_eq_true rfl]
      conv => whnf
      refine ⟨_, ct29_nil, ?_⟩
      conv => whnf
      repeat' (first | exact trivial | exact rfl | refine And.intro ?_ ?_)
    · obtain ⟨c, hcy⟩ : ∃ c, c = cycOf N es e := ⟨_, rfl⟩
      rw [Option.map_some, ← hcy] at h33
      have h35 : Ct Try.prog 35 [rA N es] (.tup [.one (.row 0 (intsR (cycOf N es e))), .one (.c (i64 0))]) := h35
      rw [← hcy] at h35
      refine ⟨_, ct24 N es (by omega), ?_⟩
      conv => whnf
      refine .inl ?_
      conv => whnf
      refine ⟨_, h32, .inl (flat_ints _ _), ?_⟩
      conv => whnf
      refine ⟨_, ct24 N es (by omega), ?_⟩
      conv => whnf
      refine .inr (.inl ?_)
      conv => whnf
      refine ⟨_, h33, ?_⟩
      conv => whnf
      refine ⟨_, ct26 N es (by omega), ?_⟩
      conv => whnf
      refine .inl ?_
      conv => whnf
      refine ⟨_, h34, .inl (flat_ints _ _), ?_⟩
      conv => whnf
      refine ⟨_, ct26 N es (by omega), ?_⟩
      conv => whnf
      refine .inl ?_
      conv => whnf
      refine ⟨_, h35, .inl (flat_ints _ _), ?_⟩
      conv => whnf
      refine .inl ?_
      conv => whnf
      refine ⟨_, ct29 l l, .inl (flat_bool _), ?_⟩
      conv => whnf
      rw [show decide (l = l) = true from decide_eq_true rfl]
      conv => whnf
      refine .inl ?_
      conv => whnf
      refine ⟨_, ct29 c c, .inl (flat_bool _), ?_⟩
      conv => whnf
      rw [show decide (c = c) = true from decide_eq_true rfl]
      conv => whnf
      repeat' (first | exact trivial | exact rfl | refine And.intro ?_ ?_)
end Go.Fx
