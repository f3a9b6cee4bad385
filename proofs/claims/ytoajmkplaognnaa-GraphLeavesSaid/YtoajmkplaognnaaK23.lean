/- GraphLeaves returns true for every input; all reads afterwards as it read before. -/
import Derived.Test.YtoajmkplaognnaaK11
import Derived.Test.YtoajmkplaognnaaK22
set_option linter.unusedVariables false
set_option linter.unusedSimpArgs false
set_option linter.unusedSectionVars false
namespace Go.Proofs.Ytoajmkplaognnaa
open Go.ChangeShapes Go.WideShapes Go.ChangeAt Go.RowKit Go.Fx Go.Fx.Gr Go.Deep

set_option maxRecDepth 100000 in
theorem graphLeaves_lifted (os : Os) (started : os.Started) (H : Type) (enc : TypeId × Value → H) :
    ReturnsInHanded {} Try.checked os 6 .any (Rows.graphLeavesSpec.pre6 enc Try.prog Try.f6 Rows.graphLeavesRow.domain false) (Rows.graphLeavesSpec.post enc Try.prog Try.f6 false true false false) := by
  refine returnsInHanded_of_change (C := Try.checked) Try.own started (by kernel_rfl) Try.func6
    (ChangeSpec.witness6 (enc := enc) (C := Try.checked) false ⟨#[], #[.agg #[.int .i64 0, .slice none 0 0], .int .u8 0], []⟩ 8 (by kernel_rfl) (by kernel_rfl) (by kernel_rfl) (by kernel_rfl)) ?_
  intro W base args ds gs before hval0 hW hcnd _
  have hW' := hW
  obtain ⟨p, q, hA0, hV, rfl, hfz, hnd⟩ := hW
  have hA : DataW.TrodAll enc Try.prog W 0 (fun _ => true) true Try.f6.params.toList args.toList ds p := hA0
  rw [Try.params6] at hA
  obtain ⟨v0, v1, d0, d1, p0, p1, rfl, rfl, rfl, h0, h1⟩ := trodAll_two hA
  obtain ⟨rfl, rfl⟩ := trodVars_none hV
  simp only [List.append_nil] at hW'
  have hval : ∀ (j : Nat) t v, Try.f6.params[j]? = some t → (#[v0, v1] : Array Value)[j]? = some v → Value.okWide Try.prog W .any base t v := hval0
  rw [Try.params6] at hval
  obtain ⟨n, es, hrep⟩ := graph_of_trod (hval 0 26 v0 rfl rfl) h0
  obtain ⟨a, rfl, rfl, rfl, wa⟩ := open_int Try.underlying5 (hval 1 5 v1 rfl rfl) h1
  have hlt : ∀ x ∈ p0, x.block < W.heap.size := fun x hx => hW'.lt x (by simp [hx])
  refine (law_calls (ct6 n es a) (vs := [v0, .int .u8 a]) ⟨hrep, rfl, trivial⟩).mono fun e W' ⟨he, hB⟩ => ?_
  exact ⟨.bool true, he, [d0, .lit (.int .u8 a)], [], p0 ++ [], [], p0 ++ [], [], by simpa using hW', trodAll_mk1 (shut_bool Try.underlying4 true),
    trodAll_mk2 (Below.trod Try.laidOut (by kernel_rfl) (of_decide_eq_true (by kernel_rfl)) h0 hB hlt) (shut_int Try.underlying5 wa), rfl, by simpa using hB.frame _, fun h => by cases h⟩

theorem graphLeaves_holds : Rows.GraphLeavesSaid :=
  OpenClaim.holds_of_wide 6 Try.f6 rfl rfl rfl rfl rfl rfl rfl ⟨rfl, rfl, rfl, rfl, rfl⟩ rfl rfl rfl rfl rfl (by kernel_rfl) Try.func6 (by kernel_rfl)
    (of_decide_eq_true (by kernel_rfl)) (by unfold Func.isWrapper; first | (rw [if_pos (by decide +kernel)]; kernel_rfl) | (rw [if_neg (by decide +kernel)]; exact ⟨rfl, rfl⟩))
    (fun os started H enc _ => graphLeaves_lifted os started H enc)

#print axioms graphLeaves_holds
end Go.Proofs.Ytoajmkplaognnaa
