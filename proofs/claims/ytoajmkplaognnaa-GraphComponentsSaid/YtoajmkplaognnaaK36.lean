/- GraphComponents returns true for every input; all reads afterwards as it read before. -/
import Derived.Test.YtoajmkplaognnaaK11
import Derived.Test.YtoajmkplaognnaaK35
set_option linter.unusedVariables false
set_option linter.unusedSimpArgs false
set_option linter.unusedSectionVars false
namespace Go.Proofs.Ytoajmkplaognnaa
open Go.ChangeShapes Go.WideShapes Go.ChangeAt Go.RowKit Go.Fx Go.Fx.Gr Go.Deep

set_option maxRecDepth 100000 in
theorem graphComponents_lifted (os : Os) (started : os.Started) (H : Type) (enc : TypeId × Value → H) :
    ReturnsInHanded {} Try.checked os 7 .any (Rows.graphComponentsSpec.pre6 enc Try.prog Try.f7 Rows.graphComponentsRow.domain false) (Rows.graphComponentsSpec.post enc Try.prog Try.f7 false true false false) := by
  refine returnsInHanded_of_change (C := Try.checked) Try.own started (by kernel_rfl) Try.func7
    (ChangeSpec.witness6 (enc := enc) (C := Try.checked) false ⟨#[], #[.agg #[.int .i64 0, .slice none 0 0]], []⟩ 8 (by kernel_rfl) (by kernel_rfl) (by kernel_rfl) (by kernel_rfl)) ?_
  intro W base args ds gs before hval0 hW hcnd _
  have hW' := hW
  obtain ⟨p, q, hA0, hV, rfl, hfz, hnd⟩ := hW
  have hA : DataW.TrodAll enc Try.prog W 0 (fun _ => true) true Try.f7.params.toList args.toList ds p := hA0
  rw [Try.params7] at hA
  obtain ⟨v0, d0, rfl, rfl, h0⟩ := trodAll_one hA
  obtain ⟨rfl, rfl⟩ := trodVars_none hV
  simp only [List.append_nil] at hW'
  have hval : ∀ (j : Nat) t v, Try.f7.params[j]? = some t → (#[v0] : Array Value)[j]? = some v → Value.okWide Try.prog W .any base t v := hval0
  rw [Try.params7] at hval
  obtain ⟨n, es, hrep⟩ := graph_of_trod (hval 0 26 v0 rfl rfl) h0
  have hlt : ∀ x ∈ p, x.block < W.heap.size := fun x hx => hW'.lt x (by simp [hx])
  refine (law_calls (ct7 n es ) (vs := [v0]) ⟨hrep, trivial⟩).mono fun e W' ⟨he, hB⟩ => ?_
  exact ⟨.bool true, he, [d0], [], p, [], p, [], by simpa using hW', trodAll_mk1 (shut_bool Try.underlying4 true),
    trodAll_mk1 (Below.trod Try.laidOut (by kernel_rfl) (of_decide_eq_true (by kernel_rfl)) h0 hB hlt), rfl, by simpa using hB.frame _, fun h => by cases h⟩

theorem graphComponents_holds : Rows.GraphComponentsSaid :=
  OpenClaim.holds_of_wide 7 Try.f7 rfl rfl rfl rfl rfl rfl rfl ⟨rfl, rfl, rfl, rfl, rfl⟩ rfl rfl rfl rfl rfl (by kernel_rfl) Try.func7 (by kernel_rfl)
    (of_decide_eq_true (by kernel_rfl)) (by unfold Func.isWrapper; first | (rw [if_pos (by decide +kernel)]; kernel_rfl) | (rw [if_neg (by decide +kernel)]; exact ⟨rfl, rfl⟩))
    (fun os started H enc _ => graphComponents_lifted os started H enc)

#print axioms graphComponents_holds
end Go.Proofs.Ytoajmkplaognnaa
