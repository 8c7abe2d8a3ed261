/-
  No cell of these rows narrows 'for every input' (looked for: loops, veiled, ifaces, maps, wideKeys, modest, calm, conditions, laid).
  DERIVED. THE GIVEN ROWS OF THIS SEAT. 6 by the template 'for every input the law returns true; each argument reads behind the call as it read before'; 0 by the template 'total and deterministic' (their statements: YtilgoepokaaleaaGreatTotals.lean).
  GIVEN WITH THE SEED: the statements are not yours to turn. If you find one false, say at which input.
  Laid BY PROGRAM, IN A SANDBOX (cutbox-rows.mjs): the forced cells as the released guide's own fill.sh prints them over the translation 705dc4b1b2e7e0b6… (all of the seat's roots in one cut). By AI agents, Wed Nov 11 2026. No macro, syntax, notation, axiom, sorry.
-/
import Derived.Test.YtilgoepokaaleaaGreatChecked
import GoSem.Claim
import GoSem.ClaimJoined
import GoSem.ClaimMapViews
import Derived.JoinedTies
import Derived.KernelRfl
namespace Go.Proofs.YtilgoepokaaleaaGreat
/- THE CELL 'sum', in the pinned program and in every row, IS THE sha256 OF THE DUMP (.gsa) THAT YtilgoepokaaleaaGreatProg.lean LOADS. Nothing in Lean hashes anything: it is a label: what it is worth is what the hold of that sum in a sandbox is worth. -/
noncomputable def Tryz.pinned : Pinned := { name := "ytilgoepokaaleaagreat", sum := "705dc4b1b2e7e0b6e46ecf33f6cd3c6b12613d37f326d77241558548c5e3b427", checked := Tryz.checked }
namespace Rows
def none {H : Type} : Left H := { results := [], args := [] }

/-- 'multihoplaw27.RoutesFeasible': WHATEVER THE INPUT: true; the input reads as it did. -/
def routesFeasibleSpec : ChangeSpec := { name := "routesFeasible", fn := fun _ => fun
  | [d] => { results := [.lit (.bool true)], args := [d] }
  | _ => none }
def routesFeasibleRow : OpenClaim := { program := "ytilgoepokaaleaagreat", sum := "705dc4b1b2e7e0b6e46ecf33f6cd3c6b12613d37f326d77241558548c5e3b427", func := "multihop/multihoplaw27.RoutesFeasible", spec := "routesFeasible", inPlace := ["internal/bytealg.Compare", "slices.overlaps[multihop/api.Route]"], unfollowed := true, recurses := true, plainKeys := false, apart := false }
def RoutesFeasibleSaid : Prop := routesFeasibleRow.holds Tryz.pinned (OpenSpec.ofChange routesFeasibleSpec)

/-- ITS FALSE NEIGHBOUR: 'it returns false'. Refute it at one input. -/
def routesFeasibleWrong : ChangeSpec := { name := "routesFeasible", fn := fun _ => fun
  | [d] => { results := [.lit (.bool false)], args := [d] }
  | _ => none }
def RoutesFeasibleWrongFalsely : Prop := routesFeasibleRow.holds Tryz.pinned (OpenSpec.ofChange routesFeasibleWrong)

/-- 'multihoplaw27.RoutesLookups': WHATEVER THE INPUT: true; the input reads as it did. -/
def routesLookupsSpec : ChangeSpec := { name := "routesLookups", fn := fun _ => fun
  | [d1, d2, d3, d4, d5, d6] => { results := [.lit (.bool true)], args := [d1, d2, d3, d4, d5, d6] }
  | _ => none }
def routesLookupsRow : OpenClaim := { program := "ytilgoepokaaleaagreat", sum := "705dc4b1b2e7e0b6e46ecf33f6cd3c6b12613d37f326d77241558548c5e3b427", func := "multihop/multihoplaw27.RoutesLookups", spec := "routesLookups", inPlace := ["internal/bytealg.Compare", "slices.overlaps[multihop/api.Route]"], unfollowed := true, recurses := true, plainKeys := false, apart := false }
def RoutesLookupsSaid : Prop := routesLookupsRow.holds Tryz.pinned (OpenSpec.ofChange routesLookupsSpec)

/-- ITS FALSE NEIGHBOUR: 'it returns false'. Refute it at one input. -/
def routesLookupsWrong : ChangeSpec := { name := "routesLookups", fn := fun _ => fun
  | [d1, d2, d3, d4, d5, d6] => { results := [.lit (.bool false)], args := [d1, d2, d3, d4, d5, d6] }
  | _ => none }
def RoutesLookupsWrongFalsely : Prop := routesLookupsRow.holds Tryz.pinned (OpenSpec.ofChange routesLookupsWrong)

/-- 'multihoplaw27.RoutesBest': WHATEVER THE INPUT: true; the input reads as it did. -/
def routesBestSpec : ChangeSpec := { name := "routesBest", fn := fun _ => fun
  | [d] => { results := [.lit (.bool true)], args := [d] }
  | _ => none }
def routesBestRow : OpenClaim := { program := "ytilgoepokaaleaagreat", sum := "705dc4b1b2e7e0b6e46ecf33f6cd3c6b12613d37f326d77241558548c5e3b427", func := "multihop/multihoplaw27.RoutesBest", spec := "routesBest", inPlace := ["internal/bytealg.Compare", "slices.overlaps[multihop/api.Route]"], unfollowed := true, recurses := true, plainKeys := false, apart := false }
def RoutesBestSaid : Prop := routesBestRow.holds Tryz.pinned (OpenSpec.ofChange routesBestSpec)

/-- ITS FALSE NEIGHBOUR: 'it returns false'. Refute it at one input. -/
def routesBestWrong : ChangeSpec := { name := "routesBest", fn := fun _ => fun
  | [d] => { results := [.lit (.bool false)], args := [d] }
  | _ => none }
def RoutesBestWrongFalsely : Prop := routesBestRow.holds Tryz.pinned (OpenSpec.ofChange routesBestWrong)

/-- 'multihoplaw27.RoutesSelects': WHATEVER THE INPUT: true; the input reads as it did. -/
def routesSelectsSpec : ChangeSpec := { name := "routesSelects", fn := fun _ => fun
  | [d1, d2, d3, d4, d5, d6] => { results := [.lit (.bool true)], args := [d1, d2, d3, d4, d5, d6] }
  | _ => none }
def routesSelectsRow : OpenClaim := { program := "ytilgoepokaaleaagreat", sum := "705dc4b1b2e7e0b6e46ecf33f6cd3c6b12613d37f326d77241558548c5e3b427", func := "multihop/multihoplaw27.RoutesSelects", spec := "routesSelects", inPlace := ["internal/bytealg.Compare", "slices.overlaps[multihop/api.Route]"], unfollowed := true, recurses := true, plainKeys := false, apart := false }
def RoutesSelectsSaid : Prop := routesSelectsRow.holds Tryz.pinned (OpenSpec.ofChange routesSelectsSpec)

/-- ITS FALSE NEIGHBOUR: 'it returns false'. Refute it at one input. -/
def routesSelectsWrong : ChangeSpec := { name := "routesSelects", fn := fun _ => fun
  | [d1, d2, d3, d4, d5, d6] => { results := [.lit (.bool false)], args := [d1, d2, d3, d4, d5, d6] }
  | _ => none }
def RoutesSelectsWrongFalsely : Prop := routesSelectsRow.holds Tryz.pinned (OpenSpec.ofChange routesSelectsWrong)

/-- 'multihoplaw27.RoutesNoCircle': WHATEVER THE INPUT: true; the input reads as it did. -/
def routesNoCircleSpec : ChangeSpec := { name := "routesNoCircle", fn := fun _ => fun
  | [d1, d2] => { results := [.lit (.bool true)], args := [d1, d2] }
  | _ => none }
def routesNoCircleRow : OpenClaim := { program := "ytilgoepokaaleaagreat", sum := "705dc4b1b2e7e0b6e46ecf33f6cd3c6b12613d37f326d77241558548c5e3b427", func := "multihop/multihoplaw27.RoutesNoCircle", spec := "routesNoCircle", inPlace := ["internal/bytealg.Compare", "slices.overlaps[multihop/api.Route]"], unfollowed := true, recurses := true, plainKeys := false, apart := false }
def RoutesNoCircleSaid : Prop := routesNoCircleRow.holds Tryz.pinned (OpenSpec.ofChange routesNoCircleSpec)

/-- ITS FALSE NEIGHBOUR: 'it returns false'. Refute it at one input. -/
def routesNoCircleWrong : ChangeSpec := { name := "routesNoCircle", fn := fun _ => fun
  | [d1, d2] => { results := [.lit (.bool false)], args := [d1, d2] }
  | _ => none }
def RoutesNoCircleWrongFalsely : Prop := routesNoCircleRow.holds Tryz.pinned (OpenSpec.ofChange routesNoCircleWrong)

/-- 'multihoplaw27.RoutesTables': WHATEVER THE INPUT: true; the input reads as it did. -/
def routesTablesSpec : ChangeSpec := { name := "routesTables", fn := fun _ => fun
  | [d1, d2, d3, d4, d5, d6] => { results := [.lit (.bool true)], args := [d1, d2, d3, d4, d5, d6] }
  | _ => none }
def routesTablesRow : OpenClaim := { program := "ytilgoepokaaleaagreat", sum := "705dc4b1b2e7e0b6e46ecf33f6cd3c6b12613d37f326d77241558548c5e3b427", func := "multihop/multihoplaw27.RoutesTables", spec := "routesTables", inPlace := ["internal/bytealg.Compare", "slices.overlaps[multihop/api.Route]"], unfollowed := true, recurses := true, plainKeys := false, apart := false }
def RoutesTablesSaid : Prop := routesTablesRow.holds Tryz.pinned (OpenSpec.ofChange routesTablesSpec)

/-- ITS FALSE NEIGHBOUR: 'it returns false'. Refute it at one input. -/
def routesTablesWrong : ChangeSpec := { name := "routesTables", fn := fun _ => fun
  | [d1, d2, d3, d4, d5, d6] => { results := [.lit (.bool false)], args := [d1, d2, d3, d4, d5, d6] }
  | _ => none }
def RoutesTablesWrongFalsely : Prop := routesTablesRow.holds Tryz.pinned (OpenSpec.ofChange routesTablesWrong)

/- THE SECOND FORM. 'bulk': how many values and letters a reading holds, each counted each time it is reached (what is shared counts as often as it is met; a slice's spare places count too). A statement '..UptoSaid' is the law's where the arguments, and the package variables that the reading takes, are together of bulk at most 1048576: NARROWER than '..Said'. Prove '..Said' where nothing that the law and all that it calls make is longer than what came in: it says more and counts as full. Else prove '..UptoSaid'. A law counts once. -/
mutual
def uptoBulk {H : Type} : DataW H → Nat
  | .lit (.string bytes) => bytes.length + 1
  | .lit _ => 1
  | .nil => 1
  | .ptr d => uptoBulk d + 1
  | .slice elems spare => uptoBulkAll elems + uptoBulkAll spare + 1
  | .agg parts => uptoBulkAll parts + 1
  | .iface _ d => uptoBulk d + 1
  | .map entries => uptoBulkEntries entries + 1
  | .held _ => 1
def uptoBulkAll {H : Type} : List (DataW H) → Nat
  | [] => 0
  | d :: r => uptoBulk d + uptoBulkAll r
def uptoBulkEntries {H : Type} : List (Lit × DataW H) → Nat
  | [] => 0
  | x :: r => uptoBulkEntry x + uptoBulkEntries r
def uptoBulkEntry {H : Type} : Lit × DataW H → Nat
  | (.string bytes, d) => bytes.length + uptoBulk d + 1
  | (_, d) => uptoBulk d + 1
 end
def uptoSmall : (H : Type) → List (DataW H) → Bool := fun _ ds => decide (uptoBulkAll ds ≤ 1048576)
def OpenSpec.upto (s : _root_.Go.ChangeSpec) : _root_.Go.OpenSpec := { _root_.Go.OpenSpec.ofChange s with cond := some uptoSmall }

/-- 'multihoplaw27.RoutesFeasible', WHERE WHAT IT READS IS OF BULK AT MOST 1048576: true; the input reads as it did. -/
def routesFeasibleUptoRow : OpenClaim := { program := "ytilgoepokaaleaagreat", sum := "705dc4b1b2e7e0b6e46ecf33f6cd3c6b12613d37f326d77241558548c5e3b427", func := "multihop/multihoplaw27.RoutesFeasible", spec := "routesFeasible", inPlace := ["internal/bytealg.Compare", "slices.overlaps[multihop/api.Route]"], unfollowed := true, recurses := true, plainKeys := false, apart := false, narrowed := true }
def RoutesFeasibleUptoSaid : Prop := routesFeasibleUptoRow.holds Tryz.pinned (OpenSpec.upto routesFeasibleSpec)

/-- 'multihoplaw27.RoutesLookups', WHERE WHAT IT READS IS OF BULK AT MOST 1048576: true; the input reads as it did. -/
def routesLookupsUptoRow : OpenClaim := { program := "ytilgoepokaaleaagreat", sum := "705dc4b1b2e7e0b6e46ecf33f6cd3c6b12613d37f326d77241558548c5e3b427", func := "multihop/multihoplaw27.RoutesLookups", spec := "routesLookups", inPlace := ["internal/bytealg.Compare", "slices.overlaps[multihop/api.Route]"], unfollowed := true, recurses := true, plainKeys := false, apart := false, narrowed := true }
def RoutesLookupsUptoSaid : Prop := routesLookupsUptoRow.holds Tryz.pinned (OpenSpec.upto routesLookupsSpec)

/-- 'multihoplaw27.RoutesBest', WHERE WHAT IT READS IS OF BULK AT MOST 1048576: true; the input reads as it did. -/
def routesBestUptoRow : OpenClaim := { program := "ytilgoepokaaleaagreat", sum := "705dc4b1b2e7e0b6e46ecf33f6cd3c6b12613d37f326d77241558548c5e3b427", func := "multihop/multihoplaw27.RoutesBest", spec := "routesBest", inPlace := ["internal/bytealg.Compare", "slices.overlaps[multihop/api.Route]"], unfollowed := true, recurses := true, plainKeys := false, apart := false, narrowed := true }
def RoutesBestUptoSaid : Prop := routesBestUptoRow.holds Tryz.pinned (OpenSpec.upto routesBestSpec)

/-- 'multihoplaw27.RoutesSelects', WHERE WHAT IT READS IS OF BULK AT MOST 1048576: true; the input reads as it did. -/
def routesSelectsUptoRow : OpenClaim := { program := "ytilgoepokaaleaagreat", sum := "705dc4b1b2e7e0b6e46ecf33f6cd3c6b12613d37f326d77241558548c5e3b427", func := "multihop/multihoplaw27.RoutesSelects", spec := "routesSelects", inPlace := ["internal/bytealg.Compare", "slices.overlaps[multihop/api.Route]"], unfollowed := true, recurses := true, plainKeys := false, apart := false, narrowed := true }
def RoutesSelectsUptoSaid : Prop := routesSelectsUptoRow.holds Tryz.pinned (OpenSpec.upto routesSelectsSpec)

/-- 'multihoplaw27.RoutesNoCircle', WHERE WHAT IT READS IS OF BULK AT MOST 1048576: true; the input reads as it did. -/
def routesNoCircleUptoRow : OpenClaim := { program := "ytilgoepokaaleaagreat", sum := "705dc4b1b2e7e0b6e46ecf33f6cd3c6b12613d37f326d77241558548c5e3b427", func := "multihop/multihoplaw27.RoutesNoCircle", spec := "routesNoCircle", inPlace := ["internal/bytealg.Compare", "slices.overlaps[multihop/api.Route]"], unfollowed := true, recurses := true, plainKeys := false, apart := false, narrowed := true }
def RoutesNoCircleUptoSaid : Prop := routesNoCircleUptoRow.holds Tryz.pinned (OpenSpec.upto routesNoCircleSpec)

/-- 'multihoplaw27.RoutesTables', WHERE WHAT IT READS IS OF BULK AT MOST 1048576: true; the input reads as it did. -/
def routesTablesUptoRow : OpenClaim := { program := "ytilgoepokaaleaagreat", sum := "705dc4b1b2e7e0b6e46ecf33f6cd3c6b12613d37f326d77241558548c5e3b427", func := "multihop/multihoplaw27.RoutesTables", spec := "routesTables", inPlace := ["internal/bytealg.Compare", "slices.overlaps[multihop/api.Route]"], unfollowed := true, recurses := true, plainKeys := false, apart := false, narrowed := true }
def RoutesTablesUptoSaid : Prop := routesTablesUptoRow.holds Tryz.pinned (OpenSpec.upto routesTablesSpec)

end Rows
end Go.Proofs.YtilgoepokaaleaaGreat
