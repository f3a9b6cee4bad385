/- Plain: the search for distances. reversed, distances. Plain: first shortest paths. path. -/
import Derived.Test.YtoajmkplaognnaaK7
import Derived.Test.YtoajmkplaognnaaK5
import Derived.Test.YtoajmkplaognnaaK6
import Derived.Test.YtoajmkplaognnaaK4
set_option linter.unusedVariables false
set_option linter.unusedSimpArgs false
set_option linter.unusedSectionVars false
namespace Go.Fx.Gr
open Go.Fx

theorem within_left {es : Es} : ∀ {k : Nat} {a b : Int}, within es (k + 1) a b = true → within es k a b = true ∨ ∃ e ∈ es, e.1 = a ∧ within es k e.2 b = true
  | 0, a, b, h => by
    rcases within_inv h with h | ⟨e, he, h1, h2⟩
    · exact .inl h
    · have h1 : a = e.1 := by simpa [within] using h1
      exact .inr ⟨e, he, h1.symm, by rw [h2]; exact within_refl es 0 b⟩
  | k + 1, a, b, h => by
    rcases within_inv h with h | ⟨e, he, h1, h2⟩
    · exact .inl h
    · subst h2
      rcases within_left h1 with h3 | ⟨e', he', h3, h4⟩
      · exact .inl (within_step he h3)
      · exact .inr ⟨e', he', h3, within_step he h4⟩

theorem far_left {es : Es} {a b : Int} {d : Nat} (h : Far es (d + 1) a b) : ∃ e ∈ es, e.1 = a ∧ Far es d e.2 b := by
  rcases within_left h.1 with h1 | ⟨e, he, h1, h2⟩
  · rw [h.2 d (by omega)] at h1; cases h1
  · refine ⟨e, he, h1, h2, fun k hk => ?_⟩
    cases h3 : within es k e.2 b with
    | false => rfl
    | true =>
      have := within_trans (within_edge he) h3
      rw [h1, Nat.add_comm, h.2 (k + 1) (by omega)] at this
      cases this

def unlab (n : Nat) (f : Nat → Int) : Nat := unseen n fun b => decide (0 ≤ f b)
theorem unlab_set {n i : Nat} {f : Nat → Int} {v : Int} (hi : i < n) (h : f i < 0) (hv : 0 ≤ v) : unlab n (fun b => if b = i then v else f b) + 1 = unlab n f := by
  unfold unlab
  rw [← unseen_set hi (S := fun b => decide (0 ≤ f b)) (by simp; exact h)]
  congr 2
  funext b
  by_cases e : b = i
  · simp [e, hv]
  · simp [e]

structure DistI (n : Nat) (es : Es) (t : Int) (f : Nat → Int) (q : List Int) : Prop where
  sound : ∀ b, b < n → f b = -1 ∨ ∃ d : Nat, f b = d ∧ Far es d (b : Int) t
  root : f t.toNat = 0
  queue : ∀ x ∈ q, (0 ≤ x ∧ x < n) ∧ 0 ≤ f x.toNat
  sorted : q.Pairwise fun x y => f x.toNat ≤ f y.toNat
  near : ∀ x ∈ q, ∀ y ∈ q, f y.toNat ≤ f x.toNat + 1
  len : q.length + unlab n f ≤ n + 1
  done : ∀ e ∈ es, 0 ≤ f e.2.toNat → e.2 ∉ q → 0 ≤ f e.1.toNat

/-- What lies no farther than all of the queue is known. -/
theorem DistI.lev {n : Nat} {es : Es} {t : Int} {f : Nat → Int} {q : List Int} (hes : inR n es) (ht : 0 ≤ t ∧ t < n) (h : DistI n es t f q) : ∀ (d : Nat) (b : Nat), b < n → Far es d (b : Int) t → (∀ x ∈ q, (d : Int) ≤ f x.toNat) → 0 ≤ f b
  | 0, b, hb, hf, _ => by
    have e : (b : Int) = t := by simpa [within] using hf.1
    have : b = t.toNat := by omega
    rw [this, h.root]
    exact Int.le_refl _
  | d + 1, b, hb, hf, hq => by
    obtain ⟨e, he, h1, h2⟩ := far_left hf
    obtain ⟨h3, h4⟩ := hes e he
    have e2 : ((e.2.toNat : Nat) : Int) = e.2 := by omega
    have h5 : 0 ≤ f e.2.toNat := DistI.lev hes ht h d e.2.toNat (by omega) (by rw [e2]; exact h2) fun x hx => by have := hq x hx; omega
    have h6 : e.2 ∉ q := fun hm => by
      have h7 := hq e.2 hm
      rcases h.sound e.2.toNat (by omega) with h8 | ⟨d', h8, h9⟩
      · omega
      · rw [e2] at h9
        have := far_inj h2 h9
        omega
    have h7 := h.done e he h5 h6
    have : b = e.1.toNat := by omega
    rw [this]; exact h7

def distL (n : Nat) (es : Es) (t : Int) : List Int := tb n fun b => dist n es (b : Int) t

theorem DistI.fin {n : Nat} {es : Es} {t : Int} {f : Nat → Int} (hes : inR n es) (ht : 0 ≤ t ∧ t < n) (h : DistI n es t f []) : tb n f = distL n es t := by
  refine List.map_congr_left fun b hb => ?_
  have hb := List.mem_range.1 hb
  rcases h.sound b hb with h1 | ⟨d, h1, h2⟩
  · rw [h1]
    symm
    refine dist_none hes (by omega) fun k => ?_
    cases h3 : within es k (b : Int) t with
    | false => rfl
    | true =>
      obtain ⟨d, _, h4⟩ := far_of h3
      have := h.lev hes ht d b hb h4 (by simp)
      omega
  · rw [h1]
    exact (dist_far hes (by omega) h2).symm

/-- A node before the first of the queue, not known yet, is one step farther. -/
theorem DistI.step {n : Nat} {es : Es} {t : Int} {f : Nat → Int} {x k : Int} {q : List Int} (hes : inR n es) (ht : 0 ≤ t ∧ t < n) (h : DistI n es t f (x :: q)) (hk : (k, x) ∈ es) (hf : f k.toNat < 0) :
    DistI n es t (fun b => if b = k.toNat then f x.toNat + 1 else f b) (x :: (q ++ [k])) := by
  obtain ⟨h3, h4⟩ := hes _ hk
  simp only at h3 h4
  obtain ⟨hx, hfx⟩ := h.queue x List.mem_cons_self
  have e2 : ((x.toNat : Nat) : Int) = x := by omega
  have ek : ((k.toNat : Nat) : Int) = k := by omega
  obtain ⟨D, hD, hfar⟩ : ∃ d : Nat, f x.toNat = d ∧ Far es d x t := by
    rcases h.sound x.toNat (by omega) with h8 | ⟨d', h8, h9⟩
    · omega
    · rw [e2] at h9; exact ⟨d', h8, h9⟩
  have hmin : ∀ y ∈ x :: q, f x.toNat ≤ f y.toNat := fun y hy => by
    rcases List.mem_cons.1 hy with rfl | hy
    · exact Int.le_refl _
    · exact (List.pairwise_cons.1 h.sorted).1 y hy
  have hnk : ∀ y ∈ x :: q, y.toNat ≠ k.toNat := fun y hy e => by
    have := (h.queue y hy).2
    rw [e] at this; omega
  have hfark : Far es (D + 1) k t := by
    refine ⟨by rw [Nat.add_comm]; exact within_trans (within_edge hk) hfar.1, fun j hj => ?_⟩
    cases h5 : within es j k t with
    | false => rfl
    | true =>
      obtain ⟨d, hd, h6⟩ := far_of h5
      have := h.lev hes ht d k.toNat (by omega) (by rw [ek]; exact h6) fun y hy => by have := hmin y hy; omega
      omega
  obtain ⟨F, hF⟩ : ∃ F : Nat → Int, F = fun b => if b = k.toNat then f x.toNat + 1 else f b := ⟨_, rfl⟩
  rw [← hF]
  have FK : F k.toNat = f x.toNat + 1 := by rw [hF]; exact if_pos rfl
  have FN : ∀ b, b ≠ k.toNat → F b = f b := fun b hb => by rw [hF]; exact if_neg hb
  have FO : ∀ y, y ∈ x :: q → F y.toNat = f y.toNat := fun y hy => FN _ (hnk y hy)
  have hunl : unlab n F + 1 = unlab n f := by rw [hF]; exact unlab_set (by omega) hf (by omega)
  clear hF
  have mem : ∀ y, y ∈ x :: (q ++ [k]) → y ∈ x :: q ∨ y = k := fun y hy => by
    rcases List.mem_cons.1 hy with hy | hy
    · exact .inl (List.mem_cons.2 (.inl hy))
    · rcases List.mem_append.1 hy with hy | hy
      · exact .inl (List.mem_cons_of_mem _ hy)
      · exact .inr (by simpa using hy)
  refine ⟨fun b hb => ?_, ?_, fun y hy => ?_, ?_, fun y hy z hz => ?_, ?_, fun e he h5 h6 => ?_⟩
  · by_cases e : b = k.toNat
    · right
      refine ⟨D + 1, by rw [e, FK, hD]; simp, by rw [e, ek]; exact hfark⟩
    · rw [FN b e]; exact h.sound b hb
  · rw [FN]
    · exact h.root
    · intro e
      have := h.root
      rw [e] at this; omega
  · rcases mem y hy with hy' | hy'
    · rw [FO y hy']
      exact h.queue y hy'
    · subst hy'
      refine ⟨h3, ?_⟩
      rw [FK]; omega
  · rw [← List.cons_append, List.pairwise_append]
    refine ⟨h.sorted.imp_of_mem fun {y z} hy hz hyz => ?_, List.pairwise_singleton _ _, fun y hy z hz => ?_⟩
    · rw [FO y hy, FO z hz]; exact hyz
    · have hz : z = k := by simpa using hz
      rw [hz, FO y hy, FK]
      exact h.near x List.mem_cons_self y hy
  · rcases mem y hy with hy' | hy'
    · rw [FO y hy']
      rcases mem z hz with hz' | hz'
      · rw [FO z hz']
        exact h.near y hy' z hz'
      · rw [hz', FK]
        have := hmin y hy'; omega
    · rw [hy', FK]
      rcases mem z hz with hz' | hz'
      · rw [FO z hz']
        have := h.near x List.mem_cons_self z hz'; omega
      · rw [hz', FK]; omega
  · have h8 := h.len
    simp only [List.length_cons, List.length_append, List.length_nil] at h8 ⊢
    omega
  · have h6a : e.2 ∉ x :: q := fun hm => h6 (by
      rcases List.mem_cons.1 hm with h | h
      · exact List.mem_cons.2 (.inl h)
      · exact List.mem_cons.2 (.inr (List.mem_append.2 (.inl h))))
    have h6b : e.2 ≠ k := fun hm => h6 (by rw [hm]; exact List.mem_cons.2 (.inr (List.mem_append.2 (.inr (by simp)))))
    have hr := (hes e he).2
    rw [FN _ (by omega)] at h5
    have := h.done e he h5 h6a
    by_cases e1 : e.1.toNat = k.toNat
    · rw [e1, FK]; omega
    · rw [FN _ e1]; exact this

theorem DistI.pop {n : Nat} {es : Es} {t : Int} {f : Nat → Int} {x : Int} {q : List Int} (h : DistI n es t f (x :: q)) (hd : ∀ e ∈ es, e.2 = x → 0 ≤ f e.1.toNat) : DistI n es t f q where
  sound := h.sound
  root := h.root
  queue y hy := h.queue y (List.mem_cons_of_mem _ hy)
  sorted := (List.pairwise_cons.1 h.sorted).2
  near y hy z hz := h.near y (List.mem_cons_of_mem _ hy) z (List.mem_cons_of_mem _ hz)
  len := by have := h.len; simp only [List.length_cons] at this; omega
  done e he h5 h6 := by
    by_cases ex : e.2 = x
    · exact hd e he ex
    · exact h.done e he h5 (by simp [ex, h6])

theorem DistI.start {n : Nat} {es : Es} {t : Int} (hes : inR n es) (ht : 0 ≤ t ∧ t < n) : DistI n es t (fun b => if b = t.toNat then 0 else -1) [t] := by
  obtain ⟨F, hF⟩ : ∃ F : Nat → Int, F = fun b => if b = t.toNat then 0 else -1 := ⟨_, rfl⟩
  rw [← hF]
  have FK : F t.toNat = 0 := by rw [hF]; exact if_pos rfl
  have FN : ∀ b, b ≠ t.toNat → F b = -1 := fun b hb => by rw [hF]; exact if_neg hb
  clear hF
  refine ⟨fun b hb => ?_, FK, fun x hx => ?_, List.pairwise_singleton _ _, fun x hx y hy => ?_, ?_, fun e he h5 h6 => ?_⟩
  · by_cases e : b = t.toNat
    · right; exact ⟨0, by rw [e, FK]; rfl, by rw [show (b : Int) = t by omega]; exact far_zero t⟩
    · left; exact FN b e
  · have hx : x = t := by simpa using hx
    rw [hx, FK]
    exact ⟨ht, Int.le_refl _⟩
  · have hx : x = t := by simpa using hx
    have hy : y = t := by simpa using hy
    rw [hx, hy]; omega
  · have := unseen_le n fun b => decide (0 ≤ F b)
    simp only [List.length_singleton]; unfold unlab; omega
  · by_cases ex : e.2.toNat = t.toNat
    · exfalso
      have := (hes e he).2
      exact h6 (by rw [show e.2 = t by omega]; simp)
    · rw [FN _ ex] at h5; omega
end Go.Fx.Gr

namespace Go.Fx
open Go.Proofs Gr
set_option maxRecDepth 100000

def swapE (es : Es) : Es := es.map fun e => (e.2, e.1)
def revL (es : Es) : Es := srt (swapE es)
theorem revL_mem (es : Es) (a b : Int) : (a, b) ∈ revL es ↔ (b, a) ∈ es := by
  unfold revL swapE
  rw [srt_mem, List.mem_map]
  constructor
  · rintro ⟨e, he, h⟩
    cases h; exact he
  · intro h; exact ⟨_, h, rfl⟩
theorem revL_in {n : Nat} {es : Es} (hes : inR n es) : inR n (revL es) := by
  rintro ⟨a, b⟩ he
  have := hes _ ((revL_mem es a b).1 he)
  exact ⟨this.2, this.1⟩
theorem revL_length (es : Es) : (revL es).length = es.length := by unfold revL swapE; rw [srt_length, List.length_map]
theorem swapE_succ (es : Es) (k : Nat) (h : k < es.length) : swapE (es.take (k + 1)) = swapE (es.take k) ++ [(es[k].2, es[k].1)] := by
  unfold swapE; rw [List.take_succ_eq_append_getElem h, List.map_append]; rfl

theorem ct95 (n : Int) (es : Es) (hl : es.length ≤ 1000000) : Ct Try.prog 95 [gA n es] (.p (.agg [.c (i64 n), .row 0 (edgesR (revL es))])) := by
  refine ct_of tyAll Try.func95 (by decide) rfl ?_
  conv => whnf
  intro hlen
  conv => whnf
  refine ⟨Nat, fun k => k ≤ es.length, fun k => ⟨(sk 2 (.p (.one (.lptr 2 0)) :: (sk 0 (.p (.one (.lptr 3 0)) :: (sk 6 (.c (edges es) :: (sk 0 (I es.length :: (sk 0 (I k :: (sk 18 []))))))))))), [(2, [.c (i64 0), .c .nil]), (3, [.c (i64 n), .own 100 0])],
    [(100, (0, edgesR (swapE (es.take k))))]⟩, fun k => es.length - k, 0, by omega, ?_, fun k hk => ?_⟩
  · repeat' (first | exact trivial | exact rfl | refine And.intro ?_ ?_)
  have hk : k ≤ es.length := hk
  conv => whnf
  refine acond_split (fun h1 => ?_) (fun h1 => ?_)
  · have h1 := dec h1
    conv => whnf
    have hlt : k < es.length := by omega
    refine ⟨es[k], by omega, List.getElem?_eq_getElem hlt, ?_⟩
    conv => whnf
    refine ⟨Int × Int, eC, [(es[k].2, es[k].1)], rfl, by decide, rfl, ?_⟩
    conv => whnf
    refine ⟨[(es[k].2, es[k].1)], rfl, by simp [swapE]; omega, by simp [swapE]; omega, ?_⟩
    conv => whnf
    refine ⟨_, wi _ (by omega) (by omega), ?_⟩
    conv => whnf
    refine ⟨k + 1, by show k + 1 ≤ es.length; omega, by show es.length - (k + 1) < es.length - k; omega, ?_⟩
    repeat' (first | exact trivial | exact rfl | refine And.intro ?_ ?_)
    show edgesR (swapE (es.take k) ++ [(es[k].2, es[k].1)]) = edgesR (swapE (es.take (k + 1)))
    rw [swapE_succ _ _ hlt]
  · have h1 := ndec h1
    conv => whnf
    rw [List.take_of_length_le (by omega)]
    refine .inr (.inr (mut_intro rfl ?_))
    unfold mstep
    conv => whnf
    refine ⟨false, edgesR (srt (swapE es)), fun _ => rfl, mt71 (swapE es) (fun _ => .nil) (by simp [swapE]; omega), ?_⟩
    conv => whnf
    repeat' (first | exact trivial | exact rfl | refine And.intro ?_ ?_)

theorem ct107 (n : Nat) (hn : n ≤ 64) (es : Es) (hes : inR n es) (hl : es.length ≤ 1000000) (t : Int) (ht : 0 ≤ t ∧ t < (n : Int)) :
    Ct Try.prog 107 [gA n es, .one (i64 t)] (.row (intsR (distL n es t))) := by
  refine ct_of tyAll Try.func107 (by decide) rfl ?_
  conv => whnf
  refine draw_intro tyAll mixed 8 (by kernel_rfl) ?_
  conv => whnf
  refine ⟨_, ct95 n es hl, ?_⟩
  conv => whnf
  refine ⟨_, ct84 n hn (revL es) (revL_in hes) (by rw [revL_length]; exact hl), .inr (cf84 n hn (revL es) (revL_in hes) (by rw [revL_length]; exact hl)), ?_⟩
  conv => whnf
  refine ⟨rfl, by omega, by omega, by omega, by omega, Int, fun n _ => i64 n, 0, zok1 (fun _ _ => rfl), ?_⟩
  conv => whnf
  intro hlen
  conv => whnf
  refine ⟨Nat, fun k => k ≤ n, fun k => ⟨(sk 1 (I t :: (sk 3 (W 13 0 :: (sk 0 (W 16 0 :: (sk 11 (I n :: (sk 0 (I k :: (sk 48 []))))))))))), [], [(13, (0, tableR (nextL n (revL es)))), (16, (0, intsR (tb n fun b => if b < k then -1 else 0)))]⟩, fun k => n - k, 0, by simp, ?_, fun k hk => ?_⟩
  · repeat' (first | exact trivial | exact rfl | refine And.intro ?_ ?_)
    · show i64 (List.replicate _ (0 : Int)).length = i64 n
      simp
    · show intsR (List.replicate _ (0 : Int)) = intsR _
      simp [tb, List.map_const']
  have hk : k ≤ n := hk
  conv => whnf
  refine acond_split (fun h1 => ?_) (fun h1 => ?_)
  · have h1 := dec h1
    conv => whnf
    have hlt : k < n := by omega
    refine ⟨by omega, by simp; omega, ?_⟩
    conv => whnf
    refine ⟨_, (-1 : Int), tb_get (by omega), rfl, ?_⟩
    conv => whnf
    refine ⟨_, wi _ (by omega) (by omega), ?_⟩
    conv => whnf
    refine ⟨k + 1, by show k + 1 ≤ n; omega, by show n - (k + 1) < n - k; omega, ?_⟩
    repeat' (first | exact trivial | exact rfl | refine And.intro ?_ ?_)
    show intsR (List.set _ _ (-1)) = intsR _
    rw [map_set]
    congr 1
    refine List.map_congr_left fun b hb => ?_
    have := List.mem_range.1 hb
    by_cases e : b = k
    · simp [e]
    · by_cases e2 : b < k
      · rw [if_neg (by omega), if_pos e2, if_pos (by omega)]
      · rw [if_neg (by omega), if_neg e2, if_neg (by omega)]
  have h1 := ndec h1
  conv => whnf
  have hk' : k = n := by omega
  subst hk'
  refine ⟨by omega, by simp; omega, ?_⟩
  conv => whnf
  refine ⟨_, (0 : Int), tb_get (by omega), rfl, ?_⟩
  conv => whnf
  refine ⟨Int, fun n _ => i64 n, [t], rfl, by decide, rfl, ?_⟩
  conv => whnf
  have hst : ((tb k fun b => if b < k then (-1 : Int) else 0).set t.toNat 0) = tb k fun b => if b = t.toNat then 0 else -1 := by
    rw [map_set]
    refine List.map_congr_left fun b hb => ?_
    have := List.mem_range.1 hb
    by_cases e : b = t.toNat
    · simp [e]
    · rw [if_neg e, if_pos this, if_neg e]
  refine ⟨(Nat → Int) × List Int, fun i => DistI k es t i.1 i.2,
    fun i => ⟨(sk 5 (W 13 0 :: (sk 0 (W 16 0 :: (sk 1 (W 30 0 :: (sk 59 []))))))), [], [(13, (0, tableR (nextL k (revL es)))), (16, (0, intsR (tb k i.1))), (30, (0, intsR i.2))]⟩, fun i => 2 * unlab k i.1 + i.2.length,
    (fun b => if b = t.toNat then 0 else -1, [t]), DistI.start hes ht, ?_, fun i hi => ?_⟩
  · repeat' (first | exact trivial | exact rfl | refine And.intro ?_ ?_)
    show intsR ((tb k fun b => if b < k then (-1 : Int) else 0).set t.toNat 0) = intsR _
    rw [hst]
  obtain ⟨f, q⟩ := i
  have B : DistI k es t f q := hi
  clear hi
  conv => whnf
  intro _
  conv => whnf
  refine acond_split (fun h2 => ?_) (fun h2 => ?_)
  · have h2 := dec h2
    conv => whnf
    obtain ⟨x, q, rfl⟩ : ∃ x q', q = x :: q' := by
      cases q with
      | nil => simp at h2
      | cons x q => exact ⟨x, q, rfl⟩
    obtain ⟨hx, hfx⟩ := B.queue x List.mem_cons_self
    have hqb := B.len
    simp only [List.length_cons] at hqb
    refine ⟨by omega, by simp, ?_⟩
    conv => whnf
    refine ⟨x, rfl, ?_⟩
    conv => whnf
    refine ⟨by omega, by simp [nextL]; omega, ?_⟩
    conv => whnf
    refine ⟨_, nextL_get hx.1 hx.2, ?_⟩
    conv => whnf
    intro _
    conv => whnf
    obtain ⟨sc, hsc⟩ : ∃ sc, sc = (((revL es).filter fun e => decide (e.1 = x)).map (·.2)) := ⟨_, rfl⟩
    have hscm : ∀ y ∈ sc, (y, x) ∈ es := fun y hy => by
      rw [hsc] at hy
      obtain ⟨⟨a, b⟩, he, rfl⟩ := List.mem_map.1 hy
      obtain ⟨h3, h4⟩ := List.mem_filter.1 he
      have h4 : a = x := by simpa using h4
      subst h4
      exact (revL_mem es _ _).1 h3
    have hscl : sc.length ≤ es.length := by rw [hsc, List.length_map, ← revL_length es]; exact List.length_filter_le _ _
    rw [← hsc]
    refine ⟨Nat × (Nat → Int) × List Int, fun i => i.1 ≤ sc.length ∧ DistI k es t i.2.1 (x :: i.2.2) ∧ (∀ y ∈ sc.take i.1, 0 ≤ i.2.1 y.toNat) ∧ 2 * unlab k i.2.1 + i.2.2.length ≤ 2 * unlab k f + q.length,
      fun i => ⟨(sk 5 (W 13 0 :: (sk 0 (W 16 0 :: (sk 1 (W 30 0 :: (sk 32 (.c (ints sc) :: (sk 0 (I sc.length :: (sk 0 (I i.1 :: (sk 24 []))))))))))))), [], [(13, (0, tableR (nextL k (revL es)))), (16, (0, intsR (tb k i.2.1))), (30, (0, intsR (x :: i.2.2)))]⟩, fun i => sc.length - i.1,
      (0, f, q), ⟨by simp, B, by simp, Nat.le_refl _⟩, ?_, fun i hi => ?_⟩
    · repeat' (first | exact trivial | exact rfl | refine And.intro ?_ ?_)
    obtain ⟨j, f1, q1⟩ := i
    obtain ⟨hj, B1, hs1, hm⟩ := hi
    simp only at hj B1 hs1 hm
    conv => whnf
    refine acond_split (fun h3 => ?_) (fun h3 => ?_)
    · have h3 := dec h3
      conv => whnf
      have hlt : j < sc.length := by omega
      have he := hscm sc[j] (List.getElem_mem hlt)
      have hyr := (hes _ he).1
      simp only at hyr
      refine ⟨sc[j], by omega, List.getElem?_eq_getElem hlt, ?_⟩
      conv => whnf
      refine ⟨by omega, by simp; omega, ?_⟩
      conv => whnf
      refine ⟨_, tb_get (by omega), ?_⟩
      conv => whnf
      have htake : ∀ y ∈ sc.take (j + 1), y ∈ sc.take j ∨ y = sc[j] := fun y hy => by
        rw [List.take_succ_eq_append_getElem hlt] at hy
        rcases List.mem_append.1 hy with h | h
        · exact .inl h
        · exact .inr (by simpa using h)
      refine acond_split (fun h4 => ?_) (fun h4 => ?_)
      · have h4 := dec h4
        conv => whnf
        have hst := B1.step hes ht he h4
        have hus := unlab_set (n := k) (i := sc[j].toNat) (f := f1) (v := f1 x.toNat + 1) (by omega) h4 (by have := (B1.queue x List.mem_cons_self).2; omega)
        have hql := B1.len
        have hxb : 0 ≤ f1 x.toNat ∧ f1 x.toNat ≤ 64 := by
          refine ⟨(B1.queue x List.mem_cons_self).2, ?_⟩
          rcases B1.sound x.toNat (by omega) with h5 | ⟨d, h5, h6⟩
          · omega
          · have := far_lt hes (by omega) h6
            omega
        simp only [List.length_cons] at hql
        refine ⟨by omega, by simp, ?_⟩
        conv => whnf
        refine ⟨x, rfl, ?_⟩
        conv => whnf
        refine ⟨by omega, by simp; omega, ?_⟩
        conv => whnf
        refine ⟨_, tb_get (by omega), ?_⟩
        conv => whnf
        refine ⟨_, wi _ (by simp only; omega) (by simp only; omega), ?_⟩
        conv => whnf
        refine ⟨by omega, by simp; omega, ?_⟩
        conv => whnf
        refine ⟨_, f1 x.toNat + 1, tb_get (by omega), rfl, ?_⟩
        conv => whnf
        refine ⟨Int, fun n _ => i64 n, [sc[j]], rfl, by decide, rfl, ?_⟩
        conv => whnf
        refine ⟨[sc[j]], rfl, by simp; omega, by simp; omega, ?_⟩
        conv => whnf
        refine ⟨_, wi _ (by omega) (by omega), ?_⟩
        conv => whnf
        refine ⟨(j + 1, (fun b => if b = sc[j].toNat then f1 x.toNat + 1 else f1 b), q1 ++ [sc[j]]), ⟨by simp only; omega, hst, fun y hy => ?_, ?_⟩, by show sc.length - (j + 1) < sc.length - j; omega, ?_⟩
        · rcases htake y hy with hy | hy
          · simp only
            split
            · omega
            · exact hs1 y hy
          · simp only
            rw [if_pos (by rw [hy])]
            omega
        · simp only [List.length_append, List.length_cons, List.length_nil]
          omega
        · repeat' (first | exact trivial | exact rfl | refine And.intro ?_ ?_)
          show intsR (List.set _ _ _) = intsR _
          rw [map_set]
      · have h4 := ndec h4
        conv => whnf
        have h4' : ¬ f1 sc[j].toNat < 0 := h4
        refine ⟨_, wi _ (by omega) (by omega), ?_⟩
        conv => whnf
        refine ⟨(j + 1, f1, q1), ⟨by simp only; omega, B1, fun y hy => ?_, hm⟩, by show sc.length - (j + 1) < sc.length - j; omega, ?_⟩
        · rcases htake y hy with hy | hy
          · exact hs1 y hy
          · rw [hy]; simp only; omega
        · repeat' (first | exact trivial | exact rfl | refine And.intro ?_ ?_)
    · have h3 := ndec h3
      conv => whnf
      rw [List.take_of_length_le (by omega)] at hs1
      refine ⟨by omega, by simp; omega, by simp, ?_⟩
      conv => whnf
      refine ⟨(f1, q1), B1.pop fun e he ex => ?_, by show 2 * unlab k f1 + q1.length < 2 * unlab k f + (q.length + 1); omega, ?_⟩
      · refine hs1 e.1 ?_
        rw [hsc]
        refine List.mem_map.2 ⟨(e.2, e.1), List.mem_filter.2 ⟨(revL_mem es _ _).2 he, by simp [ex]⟩, rfl⟩
      · repeat' (first | exact trivial | exact rfl | refine And.intro ?_ ?_)
        show intsR (List.drop 1 (List.take _ (x :: q1))) = intsR q1
        simp
  · have h2 := ndec h2
    conv => whnf
    have hq : q = [] := by
      cases q with
      | nil => rfl
      | cons x q => simp at h2
    subst hq
    refine ⟨?_, trivial⟩
    show intsR _ = intsR (tb k f)
    rw [B.fin hes ht]
end Go.Fx

namespace Go.Fx.Gr
open Go.Fx

def SortedL (es : Es) : Prop := es.Pairwise lt2

theorem ecmp_lt (x y : Int × Int) : ecmp x y < 0 ↔ lt2 x y := by
  have h := lt_e x y
  unfold Go.Proofs.ltOf at h
  have h2 : (ecmp x y < 0) ↔ (x.1 < y.1 ∨ x.1 = y.1 ∧ x.2 < y.2) := decide_eq_decide.1 h
  exact h2
theorem lt2_trans {x y z : Int × Int} (h : lt2 x y) (h' : lt2 y z) : lt2 x z := by unfold lt2 at *; omega
theorem sortedB_pairwise : ∀ {es : Es}, sortedB es = true → SortedL es
  | [], _ => List.Pairwise.nil
  | [a], _ => List.pairwise_singleton _ _
  | a :: b :: l, h => by
    rw [sortedB, Bool.and_eq_true, decide_eq_true_eq, ecmp_lt] at h
    have ih : SortedL (b :: l) := sortedB_pairwise h.2
    refine List.Pairwise.cons (fun y hy => ?_) ih
    rcases List.mem_cons.1 hy with e | hy
    · rw [e]; exact h.1
    · exact lt2_trans h.1 ((List.pairwise_cons.1 ih).1 y hy)

/-- The nodes to which edges lead from one, in order. -/
def adjL (n : Nat) (es : Es) (a : Int) : List Int := ((List.range n).filter fun (v : Nat) => decide ((a, (v : Int)) ∈ es)).map fun (v : Nat) => (v : Int)
theorem adj_eq {n : Nat} {es : Es} (hes : inR n es) (hs : SortedL es) (a : Int) : (es.filter fun e => decide (e.1 = a)).map (·.2) = adjL n es a := by
  refine strict_ext (lt := fun x y : Int => x < y) (fun x => Int.lt_irrefl x) (fun h => by omega) ?_ ?_ fun x => ?_
  · rw [List.pairwise_map]
    refine List.Pairwise.imp_of_mem (R := lt2) (fun {x y} hx hy h => ?_) (List.Pairwise.filter _ hs)
    have h1 : x.1 = a := by simpa using (List.mem_filter.1 hx).2
    have h2 : y.1 = a := by simpa using (List.mem_filter.1 hy).2
    unfold lt2 at h
    omega
  · unfold adjL
    rw [List.pairwise_map]
    exact (List.Pairwise.filter _ List.pairwise_lt_range).imp fun h => by omega
  · unfold adjL
    simp only [List.mem_map, List.mem_filter, List.mem_range, decide_eq_true_eq]
    constructor
    · rintro ⟨⟨p, q⟩, ⟨he, rfl⟩, rfl⟩
      have := (hes _ he).2
      simp only at this
      exact ⟨q.toNat, ⟨by omega, by rw [show ((q.toNat : Nat) : Int) = q by omega]; exact he⟩, by simp only; omega⟩
    · rintro ⟨v, ⟨hv, he⟩, rfl⟩
      exact ⟨_, ⟨he, rfl⟩, rfl⟩
theorem adj_mem {n : Nat} {es : Es} {a x : Int} (h : x ∈ adjL n es a) : (a, x) ∈ es ∧ 0 ≤ x ∧ x < n := by
  unfold adjL at h
  obtain ⟨v, hv, rfl⟩ := List.mem_map.1 h
  obtain ⟨h1, h2⟩ := List.mem_filter.1 hv
  have := List.mem_range.1 h1
  exact ⟨by simpa using h2, by omega, by omega⟩
theorem mem_adj {n : Nat} {es : Es} (hes : inR n es) {a x : Int} (h : (a, x) ∈ es) : x ∈ adjL n es a := by
  have h1 := (hes _ h).2
  simp only at h1
  unfold adjL
  refine List.mem_map.2 ⟨x.toNat, List.mem_filter.2 ⟨List.mem_range.2 (by omega), ?_⟩, by omega⟩
  rw [show ((x.toNat : Nat) : Int) = x by omega]
  exact decide_eq_true h
theorem adj_length (n : Nat) (es : Es) (a : Int) : (adjL n es a).length ≤ n := by
  unfold adjL
  rw [List.length_map]
  exact Nat.le_trans (List.length_filter_le _ _) (by simp)

/-- The first node one step nearer. -/
def nextV (n : Nat) (es : Es) (b a : Int) : Int := ((adjL n es a).find? fun v => decide (dist n es v b = dist n es a b - 1)).getD a
def pathD (n : Nat) (es : Es) (b : Int) : Nat → Int → List Int
  | 0, a => [a]
  | d + 1, a => a :: pathD n es b d (nextV n es b a)
def pathL (n : Nat) (es : Es) (a b : Int) : List Int := pathD n es b (dist n es a b).toNat a

theorem pathD_length (n : Nat) (es : Es) (b : Int) : ∀ d a, (pathD n es b d a).length = d + 1
  | 0, a => rfl
  | d + 1, a => by rw [pathD, List.length_cons, pathD_length n es b d]

theorem dist_self {n : Nat} {es : Es} (hes : inR n es) {a : Int} (ha : 0 ≤ a ∧ a < n) : dist n es a a = 0 := dist_far hes ha (far_zero a)

/-- There is a next node. -/
theorem next_some {n : Nat} {es : Es} (hes : inR n es) {a b : Int} (ha : 0 ≤ a ∧ a < n) (h : 0 ≤ dist n es a b) (hne : a ≠ b) :
    ∃ v, (adjL n es a).find? (fun v => decide (dist n es v b = dist n es a b - 1)) = some v := by
  rcases dist_spec (b := b) hes ha with ⟨d, h1, h2⟩ | ⟨h1, h2⟩
  · cases d with
    | zero => exact absurd (by simpa [within] using h2.1) hne
    | succ d =>
      obtain ⟨e, he, h3, h4⟩ := far_left h2
      have h5 : e.2 ∈ adjL n es a := mem_adj hes (by rw [← h3]; exact he)
      have h6 : dist n es e.2 b = d := dist_far hes (hes e he).2 h4
      cases hf : (adjL n es a).find? (fun v => decide (dist n es v b = dist n es a b - 1)) with
      | some v => exact ⟨v, rfl⟩
      | none =>
        have := List.find?_eq_none.1 hf e.2 h5
        rw [h6, h1] at this
        exact absurd (decide_eq_true (by omega)) this
  · omega
theorem next_step {n : Nat} {es : Es} {a b v : Int} (hf : (adjL n es a).find? (fun v => decide (dist n es v b = dist n es a b - 1)) = some v) :
    nextV n es b a = v ∧ (a, v) ∈ es ∧ (0 ≤ v ∧ v < n) ∧ dist n es v b = dist n es a b - 1 := by
  have h1 := adj_mem (List.mem_of_find?_eq_some hf)
  have h2 := List.find?_some hf
  exact ⟨by unfold nextV; rw [hf]; rfl, h1.1, h1.2, of_decide_eq_true h2⟩
theorem path_step {n : Nat} {es : Es} {a b : Int} (h : 0 < dist n es a b) (hv : dist n es (nextV n es b a) b = dist n es a b - 1) : pathL n es a b = a :: pathL n es (nextV n es b a) b := by
  unfold pathL
  rw [hv]
  obtain ⟨d, hd⟩ : ∃ d : Nat, dist n es a b = d + 1 := ⟨(dist n es a b - 1).toNat, by omega⟩
  rw [hd]
  rw [show ((d : Int) + 1).toNat = d + 1 by omega, show ((d : Int) + 1 - 1).toNat = d by omega]
  rfl
end Go.Fx.Gr

namespace Go.Fx
open Go.Proofs Gr
set_option maxRecDepth 100000

theorem distL_get {n : Nat} {es : Es} {v b : Int} (h0 : 0 ≤ v) (h1 : v < n) : (distL n es b)[v.toNat]? = some (dist n es v b) := by
  unfold distL
  rw [tb_get (by omega)]
  rw [show ((v.toNat : Nat) : Int) = v by omega]
theorem distL_length (n : Nat) (es : Es) (b : Int) : (distL n es b).length = n := by simp [distL]

def pathRv (n : Nat) (es : Es) (a b : Int) : Rv := if dist n es a b < 0 then .c .nil else .row (intsR (pathL n es a b))

theorem dist_bound {n : Nat} {es : Es} (hes : inR n es) {a b : Int} (ha : 0 ≤ a ∧ a < n) : -1 ≤ dist n es a b ∧ dist n es a b < n := by
  rcases dist_spec (b := b) hes ha with ⟨d, h1, h2⟩ | ⟨h1, h2⟩
  · have := far_lt hes ha h2
    omega
  · omega

theorem ct78 (n : Nat) (hn : n ≤ 64) (es : Es) (hes : inR n es) (hs : SortedL es) (hl : es.length ≤ 1000000) (a b : Int) (ha : 0 ≤ a ∧ a < (n : Int)) (hb : 0 ≤ b ∧ b < (n : Int)) :
    Ct Try.prog 78 [gA n es, .one (i64 a), .one (i64 b)] (pathRv n es a b) := by
  refine ct_of tyAll Try.func78 (by decide) rfl ?_
  conv => whnf
  refine draw_intro tyAll mixed 7 (by kernel_rfl) ?_
  conv => whnf
  refine ⟨_, ct107 n hn es hes hl b hb, ?_⟩
  conv => whnf
  refine ⟨_, ct84 n hn es hes hl, ?_⟩
  conv => whnf
  have hdl := distL_length n es b
  refine ⟨ha.1, (by show a < ((distL n es b).length : Int); omega), ?_⟩
  conv => whnf
  refine ⟨_, distL_get ha.1 ha.2, ?_⟩
  conv => whnf
  refine acond_split (fun h1 => ?_) (fun h1 => ?_)
  · have h1 := dec h1
    conv => whnf
    rw [pathRv, if_pos h1]
    conv => whnf
    repeat' (first | exact trivial | exact rfl | refine And.intro ?_ ?_)
  have h1 := ndec h1
  conv => whnf
  rw [pathRv, if_neg h1]
  conv => whnf
  refine ⟨Int, fun n _ => i64 n, [a], rfl, by decide, rfl, ?_⟩
  conv => whnf
  refine ⟨Int × List Int, fun i => (0 ≤ i.1 ∧ i.1 < (n : Int)) ∧ 0 ≤ dist n es i.1 b ∧ i.2 ++ pathL n es i.1 b = pathL n es a b,
    fun i => ⟨(sk 2 (I b :: (sk 4 (W 15 0 :: (sk 0 (W 17 0 :: (sk 0 (W 24 0 :: (sk 0 (I i.1 :: (sk 44 []))))))))))), [], [(15, (0, intsR (distL n es b))), (17, (0, tableR (nextL n es))), (24, (0, intsR (i.2 ++ [i.1])))]⟩, fun i => (dist n es i.1 b).toNat,
    (a, []), ⟨ha, by simp only; omega, rfl⟩, ?_, fun i hi => ?_⟩
  · repeat' (first | exact trivial | exact rfl | refine And.intro ?_ ?_)
  obtain ⟨k, pre⟩ := i
  obtain ⟨hk, hd, hp⟩ := hi
  simp only at hk hd hp
  have hkd := dist_bound (b := b) hes hk
  have hplen : pre.length + (dist n es k b).toNat + 1 = (dist n es a b).toNat + 1 := by
    have := congrArg List.length hp
    unfold pathL at this
    rw [List.length_append, pathD_length, pathD_length] at this
    omega
  have had := dist_bound (b := b) hes ha
  conv => whnf
  refine acond_split (fun h2 => ?_) (fun h2 => ?_)
  · have h2 : k ≠ b := of_decide_eq_true h2
    obtain ⟨v, hv⟩ := next_some hes hk hd h2
    obtain ⟨hv1, hv2, hv3, hv4⟩ := next_step hv
    have hpos : 0 < dist n es k b := by
      rcases dist_spec (b := v) hes hk with ⟨d, h5, h6⟩ | ⟨h5, h6⟩
      · have := dist_bound (b := b) hes hv3
        rcases dist_spec (b := b) hes hv3 with ⟨d', h7, h8⟩ | ⟨h7, h8⟩
        · omega
        · exfalso
          have : dist n es k b = 0 := by omega
          rcases dist_spec (b := b) hes hk with ⟨d', h9, h10⟩ | ⟨h9, h10⟩
          · have : d' = 0 := by omega
            subst this
            exact h2 (by simpa [within] using h10.1)
          · omega
      · rcases dist_spec (b := b) hes hk with ⟨d', h9, h10⟩ | ⟨h9, h10⟩
        · cases d' with
          | zero => exact absurd (by simpa [within] using h10.1) h2
          | succ d' => omega
        · omega
    have hstep := path_step (b := b) hpos (by rw [hv1]; exact hv4)
    rw [hv1] at hstep
    conv => whnf
    refine ⟨hk.1, (by simp [nextL]; omega), ?_⟩
    conv => whnf
    refine ⟨_, nextL_get hk.1 hk.2, ?_⟩
    conv => whnf
    rw [adj_eq hes hs k]
    have hal := adj_length n es k
    intro _
    conv => whnf
    refine ⟨Nat, fun j => j ≤ (adjL n es k).length ∧ ∀ i, (h : i < j) → (h' : i < (adjL n es k).length) → dist n es (adjL n es k)[i] b ≠ dist n es k b - 1,
      fun j => ⟨(sk 2 (I b :: (sk 4 (W 15 0 :: (sk 0 (W 17 0 :: (sk 0 (W 24 0 :: (sk 0 (I k :: (sk 25 (.c (ints (adjL n es k)) :: (sk 0 (I (adjL n es k).length :: (sk 0 (I j :: (sk 16 []))))))))))))))))), [], [(15, (0, intsR (distL n es b))), (17, (0, tableR (nextL n es))), (24, (0, intsR (pre ++ [k])))]⟩, fun j => (adjL n es k).length - j,
      0, ⟨by omega, fun i h => by omega⟩, ?_, fun j hj => ?_⟩
    · repeat' (first | exact trivial | exact rfl | refine And.intro ?_ ?_)
    obtain ⟨hj, hnone⟩ := hj
    conv => whnf
    refine acond_split (fun h3 => ?_) (fun h3 => ?_)
    · have h3 := dec h3
      conv => whnf
      have hlt : j < (adjL n es k).length := by omega
      have hm := adj_mem (List.getElem_mem hlt)
      have hbd := dist_bound (b := b) hes hm.2
      refine ⟨(adjL n es k)[j], by omega, List.getElem?_eq_getElem hlt, ?_⟩
      conv => whnf
      refine draw_intro tyAll mixed 10 (by kernel_rfl) ?_
      conv => whnf
      refine ⟨hm.2.1, (by show (adjL n es k)[j] < ((distL n es b).length : Int); omega), ?_⟩
      conv => whnf
      refine ⟨_, distL_get hm.2.1 hm.2.2, ?_⟩
      conv => whnf
      refine ⟨hk.1, (by show k < ((distL n es b).length : Int); omega), ?_⟩
      conv => whnf
      refine ⟨_, distL_get hk.1 hk.2, ?_⟩
      conv => whnf
      refine ⟨_, wi _ (by omega) (by omega), ?_⟩
      conv => whnf
      refine acond_split (fun h4 => ?_) (fun h4 => ?_)
      · have h4 : dist n es (adjL n es k)[j] b = dist n es k b - 1 := of_decide_eq_true h4
        have hvj : v = (adjL n es k)[j] := by
          have : (adjL n es k).find? (fun v => decide (dist n es v b = dist n es k b - 1)) = some (adjL n es k)[j] := by
            rw [List.find?_eq_some_iff_getElem]
            exact ⟨decide_eq_true h4, j, hlt, rfl, fun i hi => by simpa using hnone i hi (by omega)⟩
          rw [hv] at this
          exact Option.some.inj this
        conv => whnf
        refine ⟨Int, fun n _ => i64 n, [(adjL n es k)[j]], rfl, by decide, rfl, ?_⟩
        conv => whnf
        refine ⟨[(adjL n es k)[j]], rfl, by simp; omega, by simp; omega, ?_⟩
        conv => whnf
        refine ⟨((adjL n es k)[j], pre ++ [k]), ⟨hm.2, by simp only; omega, by rw [List.append_assoc, ← hvj]; simp only [List.cons_append, List.nil_append]; rw [← hstep]; exact hp⟩, by show (dist n es (adjL n es k)[j] b).toNat < (dist n es k b).toNat; omega, ?_⟩
        repeat' (first | exact trivial | exact rfl | refine And.intro ?_ ?_)
      · have h4 : dist n es (adjL n es k)[j] b ≠ dist n es k b - 1 := of_decide_eq_false h4
        conv => whnf
        refine ⟨_, wi _ (by omega) (by omega), ?_⟩
        conv => whnf
        refine ⟨j + 1, ⟨by omega, fun i hi hi' => ?_⟩, by show (adjL n es k).length - (j + 1) < (adjL n es k).length - j; omega, ?_⟩
        · rcases Nat.lt_or_ge i j with h | h
          · exact hnone i h hi'
          · obtain rfl : i = j := by omega
            exact h4
        repeat' (first | exact trivial | exact rfl | refine And.intro ?_ ?_)
    · have h3 := ndec h3
      conv => whnf
      exfalso
      rw [List.find?_eq_some_iff_getElem] at hv
      obtain ⟨h5, i, hi, h6, _⟩ := hv
      refine hnone i (by omega) hi ?_
      rw [h6]
      exact hv4
  · have h2 : k = b := Decidable.not_not.1 (of_decide_eq_false h2)
    subst h2
    refine ⟨?_, trivial⟩
    show intsR _ = intsR (pre ++ [k])
    rw [← hp]
    unfold pathL
    rw [dist_self hes hk]
    rfl
end Go.Fx
