/-
  No cell of these rows narrows 'for every input' (looked for: loops, veiled, ifaces, maps, wideKeys, modest, calm, conditions, laid).
  DERIVED. THE GIVEN ROWS OF THIS SEAT. 11 by the template 'for every input the law returns true; each argument reads behind the call as it read before'; 0 by the template 'total and deterministic' (their statements: YtoajmkplaognnaaTotals.lean).
  GIVEN WITH THE SEED: the statements are not yours to turn. If you find one false, say at which input.
  Laid BY PROGRAM, IN A SANDBOX (cutbox-rows.mjs): the forced cells as the released guide's own fill.sh prints them over the translation e705db2fa71d3a81… (all of the seat's roots in one cut). By AI agents, Wed Nov 11 2026. No macro, syntax, notation, axiom, sorry.
-/
import Derived.Test.YtoajmkplaognnaaChecked
import GoSem.Claim
import GoSem.ClaimJoined
import GoSem.ClaimMapViews
import Derived.JoinedTies
import Derived.KernelRfl
namespace Go.Proofs.Ytoajmkplaognnaa
/- THE CELL 'sum', in the pinned program and in every row, IS THE sha256 OF THE DUMP (.gsa) THAT YtoajmkplaognnaaProg.lean LOADS. Nothing in Lean hashes anything: it is a label: what it is worth is what the hold of that sum in a sandbox is worth. -/
noncomputable def Try.pinned : Pinned := { name := "ytoajmkplaognnaa", sum := "e705db2fa71d3a8101568e8dbf9149ae6bdf81b65dc6898ae3b4e7976350e0e6", checked := Try.checked }
namespace Rows
def none {H : Type} : Left H := { results := [], args := [] }

/-- 'dowellaw10.GraphMakes': WHATEVER THE INPUT: true; the input reads as it did. -/
def graphMakesSpec : ChangeSpec := { name := "graphMakes", fn := fun _ => fun
  | [d1, d2] => { results := [.lit (.bool true)], args := [d1, d2] }
  | _ => none }
def graphMakesRow : OpenClaim := { program := "ytoajmkplaognnaa", sum := "e705db2fa71d3a8101568e8dbf9149ae6bdf81b65dc6898ae3b4e7976350e0e6", func := "dowel/dowellaw10.GraphMakes", spec := "graphMakes", unfollowed := true, recurses := true, apart := false }
def GraphMakesSaid : Prop := graphMakesRow.holds Try.pinned (OpenSpec.ofChange graphMakesSpec)

/-- ITS FALSE NEIGHBOUR: 'it returns false'. Refute it at one input. -/
def graphMakesWrong : ChangeSpec := { name := "graphMakes", fn := fun _ => fun
  | [d1, d2] => { results := [.lit (.bool false)], args := [d1, d2] }
  | _ => none }
def GraphMakesWrongFalsely : Prop := graphMakesRow.holds Try.pinned (OpenSpec.ofChange graphMakesWrong)

/-- 'dowellaw10.GraphPaths': WHATEVER THE INPUT: true; the input reads as it did. -/
def graphPathsSpec : ChangeSpec := { name := "graphPaths", fn := fun _ => fun
  | [d1, d2, d3] => { results := [.lit (.bool true)], args := [d1, d2, d3] }
  | _ => none }
def graphPathsRow : OpenClaim := { program := "ytoajmkplaognnaa", sum := "e705db2fa71d3a8101568e8dbf9149ae6bdf81b65dc6898ae3b4e7976350e0e6", func := "dowel/dowellaw10.GraphPaths", spec := "graphPaths", unfollowed := true, recurses := true, apart := false }
def GraphPathsSaid : Prop := graphPathsRow.holds Try.pinned (OpenSpec.ofChange graphPathsSpec)

/-- ITS FALSE NEIGHBOUR: 'it returns false'. Refute it at one input. -/
def graphPathsWrong : ChangeSpec := { name := "graphPaths", fn := fun _ => fun
  | [d1, d2, d3] => { results := [.lit (.bool false)], args := [d1, d2, d3] }
  | _ => none }
def GraphPathsWrongFalsely : Prop := graphPathsRow.holds Try.pinned (OpenSpec.ofChange graphPathsWrong)

/-- 'dowellaw10.GraphOrders': WHATEVER THE INPUT: true; the input reads as it did. -/
def graphOrdersSpec : ChangeSpec := { name := "graphOrders", fn := fun _ => fun
  | [d] => { results := [.lit (.bool true)], args := [d] }
  | _ => none }
def graphOrdersRow : OpenClaim := { program := "ytoajmkplaognnaa", sum := "e705db2fa71d3a8101568e8dbf9149ae6bdf81b65dc6898ae3b4e7976350e0e6", func := "dowel/dowellaw10.GraphOrders", spec := "graphOrders", unfollowed := true, recurses := true, apart := false }
def GraphOrdersSaid : Prop := graphOrdersRow.holds Try.pinned (OpenSpec.ofChange graphOrdersSpec)

/-- ITS FALSE NEIGHBOUR: 'it returns false'. Refute it at one input. -/
def graphOrdersWrong : ChangeSpec := { name := "graphOrders", fn := fun _ => fun
  | [d] => { results := [.lit (.bool false)], args := [d] }
  | _ => none }
def GraphOrdersWrongFalsely : Prop := graphOrdersRow.holds Try.pinned (OpenSpec.ofChange graphOrdersWrong)

/-- 'dowellaw10.GraphLeaves': WHATEVER THE INPUT: true; the input reads as it did. -/
def graphLeavesSpec : ChangeSpec := { name := "graphLeaves", fn := fun _ => fun
  | [d1, d2] => { results := [.lit (.bool true)], args := [d1, d2] }
  | _ => none }
def graphLeavesRow : OpenClaim := { program := "ytoajmkplaognnaa", sum := "e705db2fa71d3a8101568e8dbf9149ae6bdf81b65dc6898ae3b4e7976350e0e6", func := "dowel/dowellaw10.GraphLeaves", spec := "graphLeaves", unfollowed := true, recurses := true, apart := false }
def GraphLeavesSaid : Prop := graphLeavesRow.holds Try.pinned (OpenSpec.ofChange graphLeavesSpec)

/-- ITS FALSE NEIGHBOUR: 'it returns false'. Refute it at one input. -/
def graphLeavesWrong : ChangeSpec := { name := "graphLeaves", fn := fun _ => fun
  | [d1, d2] => { results := [.lit (.bool false)], args := [d1, d2] }
  | _ => none }
def GraphLeavesWrongFalsely : Prop := graphLeavesRow.holds Try.pinned (OpenSpec.ofChange graphLeavesWrong)

/-- 'dowellaw10.GraphComponents': WHATEVER THE INPUT: true; the input reads as it did. -/
def graphComponentsSpec : ChangeSpec := { name := "graphComponents", fn := fun _ => fun
  | [d] => { results := [.lit (.bool true)], args := [d] }
  | _ => none }
def graphComponentsRow : OpenClaim := { program := "ytoajmkplaognnaa", sum := "e705db2fa71d3a8101568e8dbf9149ae6bdf81b65dc6898ae3b4e7976350e0e6", func := "dowel/dowellaw10.GraphComponents", spec := "graphComponents", unfollowed := true, recurses := true, apart := false }
def GraphComponentsSaid : Prop := graphComponentsRow.holds Try.pinned (OpenSpec.ofChange graphComponentsSpec)

/-- ITS FALSE NEIGHBOUR: 'it returns false'. Refute it at one input. -/
def graphComponentsWrong : ChangeSpec := { name := "graphComponents", fn := fun _ => fun
  | [d] => { results := [.lit (.bool false)], args := [d] }
  | _ => none }
def GraphComponentsWrongFalsely : Prop := graphComponentsRow.holds Try.pinned (OpenSpec.ofChange graphComponentsWrong)

/-- 'dowellaw10.GraphReverses': WHATEVER THE INPUT: true; the input reads as it did. -/
def graphReversesSpec : ChangeSpec := { name := "graphReverses", fn := fun _ => fun
  | [d1, d2] => { results := [.lit (.bool true)], args := [d1, d2] }
  | _ => none }
def graphReversesRow : OpenClaim := { program := "ytoajmkplaognnaa", sum := "e705db2fa71d3a8101568e8dbf9149ae6bdf81b65dc6898ae3b4e7976350e0e6", func := "dowel/dowellaw10.GraphReverses", spec := "graphReverses", unfollowed := true, recurses := true, apart := false }
def GraphReversesSaid : Prop := graphReversesRow.holds Try.pinned (OpenSpec.ofChange graphReversesSpec)

/-- ITS FALSE NEIGHBOUR: 'it returns false'. Refute it at one input. -/
def graphReversesWrong : ChangeSpec := { name := "graphReverses", fn := fun _ => fun
  | [d1, d2] => { results := [.lit (.bool false)], args := [d1, d2] }
  | _ => none }
def GraphReversesWrongFalsely : Prop := graphReversesRow.holds Try.pinned (OpenSpec.ofChange graphReversesWrong)

/-- 'dowellaw10.GraphAcyclic': WHATEVER THE INPUT: true; the input reads as it did. -/
def graphAcyclicSpec : ChangeSpec := { name := "graphAcyclic", fn := fun _ => fun
  | [d] => { results := [.lit (.bool true)], args := [d] }
  | _ => none }
def graphAcyclicRow : OpenClaim := { program := "ytoajmkplaognnaa", sum := "e705db2fa71d3a8101568e8dbf9149ae6bdf81b65dc6898ae3b4e7976350e0e6", func := "dowel/dowellaw10.GraphAcyclic", spec := "graphAcyclic", unfollowed := true, recurses := true, apart := false }
def GraphAcyclicSaid : Prop := graphAcyclicRow.holds Try.pinned (OpenSpec.ofChange graphAcyclicSpec)

/-- ITS FALSE NEIGHBOUR: 'it returns false'. Refute it at one input. -/
def graphAcyclicWrong : ChangeSpec := { name := "graphAcyclic", fn := fun _ => fun
  | [d] => { results := [.lit (.bool false)], args := [d] }
  | _ => none }
def GraphAcyclicWrongFalsely : Prop := graphAcyclicRow.holds Try.pinned (OpenSpec.ofChange graphAcyclicWrong)

/-- 'dowellaw10.GraphReaches': WHATEVER THE INPUT: true; the input reads as it did. -/
def graphReachesSpec : ChangeSpec := { name := "graphReaches", fn := fun _ => fun
  | [d1, d2] => { results := [.lit (.bool true)], args := [d1, d2] }
  | _ => none }
def graphReachesRow : OpenClaim := { program := "ytoajmkplaognnaa", sum := "e705db2fa71d3a8101568e8dbf9149ae6bdf81b65dc6898ae3b4e7976350e0e6", func := "dowel/dowellaw10.GraphReaches", spec := "graphReaches", unfollowed := true, recurses := true, apart := false }
def GraphReachesSaid : Prop := graphReachesRow.holds Try.pinned (OpenSpec.ofChange graphReachesSpec)

/-- ITS FALSE NEIGHBOUR: 'it returns false'. Refute it at one input. -/
def graphReachesWrong : ChangeSpec := { name := "graphReaches", fn := fun _ => fun
  | [d1, d2] => { results := [.lit (.bool false)], args := [d1, d2] }
  | _ => none }
def GraphReachesWrongFalsely : Prop := graphReachesRow.holds Try.pinned (OpenSpec.ofChange graphReachesWrong)

/-- 'dowellaw10.GraphMirrors': WHATEVER THE INPUT: true; the input reads as it did. -/
def graphMirrorsSpec : ChangeSpec := { name := "graphMirrors", fn := fun _ => fun
  | [d] => { results := [.lit (.bool true)], args := [d] }
  | _ => none }
def graphMirrorsRow : OpenClaim := { program := "ytoajmkplaognnaa", sum := "e705db2fa71d3a8101568e8dbf9149ae6bdf81b65dc6898ae3b4e7976350e0e6", func := "dowel/dowellaw10.GraphMirrors", spec := "graphMirrors", unfollowed := true, recurses := true, apart := false }
def GraphMirrorsSaid : Prop := graphMirrorsRow.holds Try.pinned (OpenSpec.ofChange graphMirrorsSpec)

/-- ITS FALSE NEIGHBOUR: 'it returns false'. Refute it at one input. -/
def graphMirrorsWrong : ChangeSpec := { name := "graphMirrors", fn := fun _ => fun
  | [d] => { results := [.lit (.bool false)], args := [d] }
  | _ => none }
def GraphMirrorsWrongFalsely : Prop := graphMirrorsRow.holds Try.pinned (OpenSpec.ofChange graphMirrorsWrong)

/-- 'dowellaw10.GraphRefuses': WHATEVER THE INPUT: true; the input reads as it did. -/
def graphRefusesSpec : ChangeSpec := { name := "graphRefuses", fn := fun _ => fun
  | [d1, d2, d3] => { results := [.lit (.bool true)], args := [d1, d2, d3] }
  | _ => none }
def graphRefusesRow : OpenClaim := { program := "ytoajmkplaognnaa", sum := "e705db2fa71d3a8101568e8dbf9149ae6bdf81b65dc6898ae3b4e7976350e0e6", func := "dowel/dowellaw10.GraphRefuses", spec := "graphRefuses", unfollowed := true, recurses := true, apart := false }
def GraphRefusesSaid : Prop := graphRefusesRow.holds Try.pinned (OpenSpec.ofChange graphRefusesSpec)

/-- ITS FALSE NEIGHBOUR: 'it returns false'. Refute it at one input. -/
def graphRefusesWrong : ChangeSpec := { name := "graphRefuses", fn := fun _ => fun
  | [d1, d2, d3] => { results := [.lit (.bool false)], args := [d1, d2, d3] }
  | _ => none }
def GraphRefusesWrongFalsely : Prop := graphRefusesRow.holds Try.pinned (OpenSpec.ofChange graphRefusesWrong)

/-- 'dowellaw10.GraphChecks': WHATEVER THE INPUT: true; the input reads as it did. -/
def graphChecksSpec : ChangeSpec := { name := "graphChecks", fn := fun _ => fun
  | [d] => { results := [.lit (.bool true)], args := [d] }
  | _ => none }
def graphChecksRow : OpenClaim := { program := "ytoajmkplaognnaa", sum := "e705db2fa71d3a8101568e8dbf9149ae6bdf81b65dc6898ae3b4e7976350e0e6", func := "dowel/dowellaw10.GraphChecks", spec := "graphChecks", unfollowed := true, recurses := true, apart := false }
def GraphChecksSaid : Prop := graphChecksRow.holds Try.pinned (OpenSpec.ofChange graphChecksSpec)

/-- ITS FALSE NEIGHBOUR: 'it returns false'. Refute it at one input. -/
def graphChecksWrong : ChangeSpec := { name := "graphChecks", fn := fun _ => fun
  | [d] => { results := [.lit (.bool false)], args := [d] }
  | _ => none }
def GraphChecksWrongFalsely : Prop := graphChecksRow.holds Try.pinned (OpenSpec.ofChange graphChecksWrong)

/- THE SECOND FORM. 'bulk': how many values and letters a reading holds, each counted each time it is reached (what is shared counts as often as it is met; a slice's spare places count too). A statement '..UptoSaid' is the law's where the arguments, and the package variables that the reading takes, are together of bulk at most 1048576: NARROWER than '..Said'. Prove '..Said' where nothing that the law and all that it calls make is longer than what came in: it says more and counts as full. Else prove '..UptoSaid'. A law counts once. -/
mutual
def uptoBulk {H : Type} : DataW H → Nat
  | .lit (.string bytes) => bytes.length + 1
  | .lit _ => 1
  | .nil => 1
  | .ptr d => uptoBulk d + 1
  | .slice elems spare => uptoBulkAll elems + uptoBulkAll spare + 1
  | .agg parts => uptoBulkAll parts + 1
  | .iface _ d => uptoBulk d + 1
  | .map entries => uptoBulkEntries entries + 1
  | .held _ => 1
def uptoBulkAll {H : Type} : List (DataW H) → Nat
  | [] => 0
  | d :: r => uptoBulk d + uptoBulkAll r
def uptoBulkEntries {H : Type} : List (Lit × DataW H) → Nat
  | [] => 0
  | x :: r => uptoBulkEntry x + uptoBulkEntries r
def uptoBulkEntry {H : Type} : Lit × DataW H → Nat
  | (.string bytes, d) => bytes.length + uptoBulk d + 1
  | (_, d) => uptoBulk d + 1
 end
def uptoSmall : (H : Type) → List (DataW H) → Bool := fun _ ds => decide (uptoBulkAll ds ≤ 1048576)
def OpenSpec.upto (s : _root_.Go.ChangeSpec) : _root_.Go.OpenSpec := { _root_.Go.OpenSpec.ofChange s with cond := some uptoSmall }

/-- 'dowellaw10.GraphMakes', WHERE WHAT IT READS IS OF BULK AT MOST 1048576: true; the input reads as it did. -/
def graphMakesUptoRow : OpenClaim := { program := "ytoajmkplaognnaa", sum := "e705db2fa71d3a8101568e8dbf9149ae6bdf81b65dc6898ae3b4e7976350e0e6", func := "dowel/dowellaw10.GraphMakes", spec := "graphMakes", unfollowed := true, recurses := true, apart := false, narrowed := true }
def GraphMakesUptoSaid : Prop := graphMakesUptoRow.holds Try.pinned (OpenSpec.upto graphMakesSpec)

/-- 'dowellaw10.GraphPaths', WHERE WHAT IT READS IS OF BULK AT MOST 1048576: true; the input reads as it did. -/
def graphPathsUptoRow : OpenClaim := { program := "ytoajmkplaognnaa", sum := "e705db2fa71d3a8101568e8dbf9149ae6bdf81b65dc6898ae3b4e7976350e0e6", func := "dowel/dowellaw10.GraphPaths", spec := "graphPaths", unfollowed := true, recurses := true, apart := false, narrowed := true }
def GraphPathsUptoSaid : Prop := graphPathsUptoRow.holds Try.pinned (OpenSpec.upto graphPathsSpec)

/-- 'dowellaw10.GraphOrders', WHERE WHAT IT READS IS OF BULK AT MOST 1048576: true; the input reads as it did. -/
def graphOrdersUptoRow : OpenClaim := { program := "ytoajmkplaognnaa", sum := "e705db2fa71d3a8101568e8dbf9149ae6bdf81b65dc6898ae3b4e7976350e0e6", func := "dowel/dowellaw10.GraphOrders", spec := "graphOrders", unfollowed := true, recurses := true, apart := false, narrowed := true }
def GraphOrdersUptoSaid : Prop := graphOrdersUptoRow.holds Try.pinned (OpenSpec.upto graphOrdersSpec)

/-- 'dowellaw10.GraphLeaves', WHERE WHAT IT READS IS OF BULK AT MOST 1048576: true; the input reads as it did. -/
def graphLeavesUptoRow : OpenClaim := { program := "ytoajmkplaognnaa", sum := "e705db2fa71d3a8101568e8dbf9149ae6bdf81b65dc6898ae3b4e7976350e0e6", func := "dowel/dowellaw10.GraphLeaves", spec := "graphLeaves", unfollowed := true, recurses := true, apart := false, narrowed := true }
def GraphLeavesUptoSaid : Prop := graphLeavesUptoRow.holds Try.pinned (OpenSpec.upto graphLeavesSpec)

/-- 'dowellaw10.GraphComponents', WHERE WHAT IT READS IS OF BULK AT MOST 1048576: true; the input reads as it did. -/
def graphComponentsUptoRow : OpenClaim := { program := "ytoajmkplaognnaa", sum := "e705db2fa71d3a8101568e8dbf9149ae6bdf81b65dc6898ae3b4e7976350e0e6", func := "dowel/dowellaw10.GraphComponents", spec := "graphComponents", unfollowed := true, recurses := true, apart := false, narrowed := true }
def GraphComponentsUptoSaid : Prop := graphComponentsUptoRow.holds Try.pinned (OpenSpec.upto graphComponentsSpec)

/-- 'dowellaw10.GraphReverses', WHERE WHAT IT READS IS OF BULK AT MOST 1048576: true; the input reads as it did. -/
def graphReversesUptoRow : OpenClaim := { program := "ytoajmkplaognnaa", sum := "e705db2fa71d3a8101568e8dbf9149ae6bdf81b65dc6898ae3b4e7976350e0e6", func := "dowel/dowellaw10.GraphReverses", spec := "graphReverses", unfollowed := true, recurses := true, apart := false, narrowed := true }
def GraphReversesUptoSaid : Prop := graphReversesUptoRow.holds Try.pinned (OpenSpec.upto graphReversesSpec)

/-- 'dowellaw10.GraphAcyclic', WHERE WHAT IT READS IS OF BULK AT MOST 1048576: true; the input reads as it did. -/
def graphAcyclicUptoRow : OpenClaim := { program := "ytoajmkplaognnaa", sum := "e705db2fa71d3a8101568e8dbf9149ae6bdf81b65dc6898ae3b4e7976350e0e6", func := "dowel/dowellaw10.GraphAcyclic", spec := "graphAcyclic", unfollowed := true, recurses := true, apart := false, narrowed := true }
def GraphAcyclicUptoSaid : Prop := graphAcyclicUptoRow.holds Try.pinned (OpenSpec.upto graphAcyclicSpec)

/-- 'dowellaw10.GraphReaches', WHERE WHAT IT READS IS OF BULK AT MOST 1048576: true; the input reads as it did. -/
def graphReachesUptoRow : OpenClaim := { program := "ytoajmkplaognnaa", sum := "e705db2fa71d3a8101568e8dbf9149ae6bdf81b65dc6898ae3b4e7976350e0e6", func := "dowel/dowellaw10.GraphReaches", spec := "graphReaches", unfollowed := true, recurses := true, apart := false, narrowed := true }
def GraphReachesUptoSaid : Prop := graphReachesUptoRow.holds Try.pinned (OpenSpec.upto graphReachesSpec)

/-- 'dowellaw10.GraphMirrors', WHERE WHAT IT READS IS OF BULK AT MOST 1048576: true; the input reads as it did. -/
def graphMirrorsUptoRow : OpenClaim := { program := "ytoajmkplaognnaa", sum := "e705db2fa71d3a8101568e8dbf9149ae6bdf81b65dc6898ae3b4e7976350e0e6", func := "dowel/dowellaw10.GraphMirrors", spec := "graphMirrors", unfollowed := true, recurses := true, apart := false, narrowed := true }
def GraphMirrorsUptoSaid : Prop := graphMirrorsUptoRow.holds Try.pinned (OpenSpec.upto graphMirrorsSpec)

/-- 'dowellaw10.GraphRefuses', WHERE WHAT IT READS IS OF BULK AT MOST 1048576: true; the input reads as it did. -/
def graphRefusesUptoRow : OpenClaim := { program := "ytoajmkplaognnaa", sum := "e705db2fa71d3a8101568e8dbf9149ae6bdf81b65dc6898ae3b4e7976350e0e6", func := "dowel/dowellaw10.GraphRefuses", spec := "graphRefuses", unfollowed := true, recurses := true, apart := false, narrowed := true }
def GraphRefusesUptoSaid : Prop := graphRefusesUptoRow.holds Try.pinned (OpenSpec.upto graphRefusesSpec)

/-- 'dowellaw10.GraphChecks', WHERE WHAT IT READS IS OF BULK AT MOST 1048576: true; the input reads as it did. -/
def graphChecksUptoRow : OpenClaim := { program := "ytoajmkplaognnaa", sum := "e705db2fa71d3a8101568e8dbf9149ae6bdf81b65dc6898ae3b4e7976350e0e6", func := "dowel/dowellaw10.GraphChecks", spec := "graphChecks", unfollowed := true, recurses := true, apart := false, narrowed := true }
def GraphChecksUptoSaid : Prop := graphChecksUptoRow.holds Try.pinned (OpenSpec.upto graphChecksSpec)

end Rows
end Go.Proofs.Ytoajmkplaognnaa
