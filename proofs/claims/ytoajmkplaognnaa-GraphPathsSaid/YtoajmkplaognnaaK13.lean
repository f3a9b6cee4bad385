/- GraphPaths: the walk. GraphPaths returns true for every graph and every two bytes; all read afterwards as they read before. -/
import Derived.Test.YtoajmkplaognnaaK12
import Derived.Test.YtoajmkplaognnaaK11
set_option linter.unusedVariables false
set_option linter.unusedSimpArgs false
set_option linter.unusedSectionVars false
namespace Go.Fx
open Go.Proofs Gr
set_option maxRecDepth 100000

theorem tree_same {n : Nat} {root : Int} {f : Int → Int} (hf : f root = -1) : rtreeL n f = treeL n root f := by
  unfold rtreeL treeL
  refine List.map_congr_left fun b _ => ?_
  by_cases h : (b : Int) = root
  · rw [if_pos h, h, hf]
  · rw [if_neg h]

set_option maxHeartbeats 2000000 in
theorem ct4 (n : Int) (es : Es) (a b : Int) (ha : 0 ≤ a ∧ a ≤ 255) (hb : 0 ≤ b ∧ b ≤ 255) : Ct Try.prog 4 [gA n es, .one (u8 a), .one (u8 b)] (.c (.bool true)) := by
  refine ct_of tyAll Try.func4 (by decide) rfl ?_
  conv => whnf
  refine ⟨_, ct14, ?_⟩
  conv => whnf
  refine ⟨_, ct22 n es, ?_⟩
  conv => whnf
  refine acond_split (fun h1 => ?_) (fun h1 => ?_)
  · have h1 : fineB n es = false := Eq.mp (Bool.not_eq_true' _) h1
    conv => whnf
    refine ⟨_, ct14, ?_⟩
    conv => whnf
    repeat' (first | exact trivial | exact rfl | refine And.intro ?_ ?_)
  have h1 : fineB n es = true := Eq.mp (Bool.not_eq_false' _) h1
  obtain ⟨N, rfl, hN, hes, hs, hl, hc⟩ := fine_ok h1
  conv => whnf
  refine acond_split (fun h2 => ?_) (fun h2 => ?_)
  · have h2 := dec h2
    conv => whnf
    refine ⟨_, ct14, ?_⟩
    conv => whnf
    repeat' (first | exact trivial | exact rfl | refine And.intro ?_ ?_)
  have h2 := ndec h2
  conv => whnf
  have hN0 : N ≠ 0 := by omega
  refine draw_intro tyAll mixed 12 (by kernel_rfl) ?_
  conv => whnf
  refine ⟨_, wi _ (by omega) (by omega), ?_⟩
  conv => whnf
  refine ⟨h2, _, rfl, ?_⟩
  conv => whnf
  refine ⟨_, wi _ (by omega) (by omega), ?_⟩
  conv => whnf
  refine ⟨h2, _, rfl, ?_⟩
  conv => whnf
  obtain ⟨x, hx⟩ : ∃ x, x = a.tmod N := ⟨_, rfl⟩
  obtain ⟨y, hy⟩ : ∃ y, y = b.tmod N := ⟨_, rfl⟩
  have hxr : 0 ≤ x ∧ x < (N : Int) := hx ▸ tmod_in ha.1 hN0
  have hyr : 0 ≤ y ∧ y < (N : Int) := hy ▸ tmod_in hb.1 hN0
  simp only [← hx, ← hy]
  clear hx hy
  have hp := ct23 N es x y
  have hp2 := ct25 N (by omega) es hes (by omega) x y hxr hyr
  have ht1 := ct27 N es x
  have ht2 := ct28 N es y
  have hr1 := ct30 N (by omega) es hes (by omega) x hxr
  have hr2 := ct31 N (by omega) es hes (by omega) y hyr
  unfold treeRv at ht1 ht2
  rw [if_pos (single_ok1 hc hxr), Int.toNat_natCast] at ht1
  rw [if_pos (single_ok1 hc hyr), Int.toNat_natCast] at ht2
  rw [tree_same (root := x) (by rw [pathO_self hes hxr]; rfl)] at hr1
  rw [tree_same (root := y) (by rw [pathO_self hes hyr]; rfl)] at hr2
  unfold pathAll at hp
  rw [if_pos (single_ok2 hc hxr hyr), Int.toNat_natCast] at hp
  unfold rpathRv at hp2
  obtain ⟨t1, e1⟩ : ∃ t1, t1 = treeL N x fun k => lastB (pathO N es x k) := ⟨_, rfl⟩
  obtain ⟨t2, e2⟩ : ∃ t2, t2 = treeL N y fun k => sndB (pathO N es k y) := ⟨_, rfl⟩
  rw [← e1] at ht1 hr1
  rw [← e2] at ht2 hr2
  clear e1 e2
  refine ⟨_, ct24 N es (by omega), ?_⟩
  conv => whnf
  refine .inl ?_
  conv => whnf
  by_cases hd : dist N es x y < 0
  · rw [if_pos hd] at hp hp2
    refine ⟨_, hp, .inl (flat_err _), ?_⟩
    conv => whnf
    refine ⟨_, ct26 N es (by omega), ?_⟩
    conv => whnf
    refine .inl ?_
    conv => whnf
    refine ⟨_, hp2, .inl (flat_err _), ?_⟩
    conv => whnf
    refine ⟨_, ct24 N es (by omega), ?_⟩
    conv => whnf
    refine .inl ?_
    conv => whnf
    refine ⟨_, ht1, .inl (flat_ints _ _), ?_⟩
    conv => whnf
    refine ⟨_, ct24 N es (by omega), ?_⟩
    conv => whnf
    refine .inl ?_
    conv => whnf
    refine ⟨_, ht2, .inl (flat_ints _ _), ?_⟩
    conv => whnf
    refine ⟨_, ct29_nil, ?_⟩
    conv => whnf
    refine ⟨_, ct26 N es (by omega), ?_⟩
    conv => whnf
    refine .inl ?_
    conv => whnf
    refine ⟨_, hr1, .inl (fun x i => flat_int _ _), ?_⟩
    conv => whnf
    refine .inl ?_
    conv => whnf
    refine ⟨_, ct29 t1 t1, .inl (flat_bool _), ?_⟩
    conv => whnf
    rw [show decide (t1 = t1) = true from decide_eq_true rfl]
    conv => whnf
    refine ⟨_, ct26 N es (by omega), ?_⟩
    conv => whnf
    refine .inl ?_
    conv => whnf
    refine ⟨_, hr2, .inl (fun x i => flat_int _ _), ?_⟩
    conv => whnf
    refine .inl ?_
    conv => whnf
    refine ⟨_, ct29 t2 t2, .inl (flat_bool _), ?_⟩
    conv => whnf
    rw [show decide (t2 = t2) = true from decide_eq_true rfl]
    conv => whnf
    repeat' (first | exact trivial | exact rfl | refine And.intro ?_ ?_)
  · rw [if_neg hd] at hp hp2
    refine ⟨_, hp, .inl (flat_ints _ _), ?_⟩
    conv => whnf
    refine ⟨_, ct26 N es (by omega), ?_⟩
    conv => whnf
    refine .inl ?_
    conv => whnf
    refine ⟨_, hp2, .inl (flat_ints _ _), ?_⟩
    conv => whnf
    refine ⟨_, ct24 N es (by omega), ?_⟩
    conv => whnf
    refine .inl ?_
    conv => whnf
    refine ⟨_, ht1, .inl (flat_ints _ _), ?_⟩
    conv => whnf
    refine ⟨_, ct24 N es (by omega), ?_⟩
    conv => whnf
    refine .inl ?_
    conv => whnf
    refine ⟨_, ht2, .inl (flat_ints _ _), ?_⟩
    conv => whnf
    refine .inl ?_
    conv => whnf
    refine ⟨_, ct29 (pathL N es x y) (pathL N es x y), .inl (flat_bool _), ?_⟩
    conv => whnf
    rw [show decide (pathL N es x y = pathL N es x y) = true from decide_eq_true rfl]
    conv => whnf
    refine ⟨_, ct26 N es (by omega), ?_⟩
    conv => whnf
    refine .inl ?_
    conv => whnf
    refine ⟨_, hr1, .inl (fun x i => flat_int _ _), ?_⟩
    conv => whnf
    refine .inl ?_
    conv => whnf
    refine ⟨_, ct29 t1 t1, .inl (flat_bool _), ?_⟩
    conv => whnf
    rw [show decide (t1 = t1) = true from decide_eq_true rfl]
    conv => whnf
    refine ⟨_, ct26 N es (by omega), ?_⟩
    conv => whnf
    refine .inl ?_
    conv => whnf
    refine ⟨_, hr2, .inl (fun x i => flat_int _ _), ?_⟩
    conv => whnf
    refine .inl ?_
    conv => whnf
    refine ⟨_, ct29 t2 t2, .inl (flat_bool _), ?_⟩
    conv => whnf
    rw [show decide (t2 = t2) = true from decide_eq_true rfl]
    conv => whnf
    repeat' (first | exact trivial | exact rfl | refine And.intro ?_ ?_)
end Go.Fx

namespace Go.Proofs.Ytoajmkplaognnaa
open Go.ChangeShapes Go.WideShapes Go.ChangeAt Go.RowKit Go.Fx Go.Fx.Gr Go.Deep

set_option maxRecDepth 100000 in
theorem graphPaths_lifted (os : Os) (started : os.Started) (H : Type) (enc : TypeId × Value → H) :
    ReturnsInHanded {} Try.checked os 4 .any (Rows.graphPathsSpec.pre6 enc Try.prog Try.f4 Rows.graphPathsRow.domain false) (Rows.graphPathsSpec.post enc Try.prog Try.f4 false true false false) := by
  refine returnsInHanded_of_change (C := Try.checked) Try.own started (by kernel_rfl) Try.func4
    (ChangeSpec.witness6 (enc := enc) (C := Try.checked) false ⟨#[], #[.agg #[.int .i64 0, .slice none 0 0], .int .u8 0, .int .u8 0], []⟩ 8 (by kernel_rfl) (by kernel_rfl) (by kernel_rfl) (by kernel_rfl)) ?_
  intro W base args ds gs before hval0 hW hcnd _
  have hW' := hW
  obtain ⟨p, q, hA0, hV, rfl, hfz, hnd⟩ := hW
  have hA : DataW.TrodAll enc Try.prog W 0 (fun _ => true) true Try.f4.params.toList args.toList ds p := hA0
  rw [Try.params4] at hA
  obtain ⟨v0, v1, v2, d0, d1, d2, p0, p1, p2, rfl, rfl, rfl, h0, h1, h2⟩ := trodAll_three hA
  obtain ⟨rfl, rfl⟩ := trodVars_none hV
  simp only [List.append_nil] at hW'
  have hval : ∀ (j : Nat) t v, Try.f4.params[j]? = some t → (#[v0, v1, v2] : Array Value)[j]? = some v → Value.okWide Try.prog W .any base t v := hval0
  rw [Try.params4] at hval
  obtain ⟨n, es, hrep⟩ := graph_of_trod (hval 0 26 v0 rfl rfl) h0
  obtain ⟨a, rfl, rfl, rfl, wa⟩ := open_int Try.underlying5 (hval 1 5 v1 rfl rfl) h1
  obtain ⟨b, rfl, rfl, rfl, wb⟩ := open_int Try.underlying5 (hval 2 5 v2 rfl rfl) h2
  have hlt : ∀ x ∈ p0, x.block < W.heap.size := fun x hx => hW'.lt x (by simp [hx])
  refine (law_calls (ct4 n es a b (u8_bounds wa) (u8_bounds wb)) (vs := [v0, .int .u8 a, .int .u8 b]) ⟨hrep, rfl, rfl, trivial⟩).mono fun e W' ⟨he, hB⟩ => ?_
  exact ⟨.bool true, he, [d0, .lit (.int .u8 a), .lit (.int .u8 b)], [], p0 ++ ([] ++ []), [], p0 ++ ([] ++ []), [], by simpa using hW', trodAll_mk1 (shut_bool Try.underlying4 true),
    trodAll_mk3 (Below.trod Try.laidOut (by kernel_rfl) (of_decide_eq_true (by kernel_rfl)) h0 hB hlt) (shut_int Try.underlying5 wa) (shut_int Try.underlying5 wb), rfl, by simpa using hB.frame _, fun h => by cases h⟩

theorem graphPaths_holds : Rows.GraphPathsSaid :=
  OpenClaim.holds_of_wide 4 Try.f4 rfl rfl rfl rfl rfl rfl rfl ⟨rfl, rfl, rfl, rfl, rfl⟩ rfl rfl rfl rfl rfl (by kernel_rfl) Try.func4 (by kernel_rfl)
    (of_decide_eq_true (by kernel_rfl)) (by unfold Func.isWrapper; first | (rw [if_pos (by decide +kernel)]; kernel_rfl) | (rw [if_neg (by decide +kernel)]; exact ⟨rfl, rfl⟩))
    (fun os started H enc _ => graphPaths_lifted os started H enc)

#print axioms graphPaths_holds
end Go.Proofs.Ytoajmkplaognnaa
