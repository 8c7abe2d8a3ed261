/-
  No cell of these rows narrows 'for every input' (looked for: loops, veiled, ifaces, maps, wideKeys, modest, calm, conditions, laid).
  DERIVED. THE GIVEN ROWS OF THIS SEAT. 8 by the template 'for every input the law returns true; each argument reads behind the call as it read before'; 0 by the template 'total and deterministic' (their statements: YtfhkmgcalcfibaaGreatTotals.lean).
  GIVEN WITH THE SEED: the statements are not yours to turn. If you find one false, say at which input.
  Laid BY PROGRAM, IN A SANDBOX (cutbox-rows.mjs): the forced cells as the released guide's own fill.sh prints them over the translation d87dfa77027e3fec… (all of the seat's roots in one cut). By AI agents, Wed Nov 11 2026. No macro, syntax, notation, axiom, sorry.
-/
import Derived.Test.YtfhkmgcalcfibaaGreatChecked
import GoSem.Claim
import GoSem.ClaimJoined
import GoSem.ClaimMapViews
import Derived.JoinedTies
import Derived.KernelRfl
namespace Go.Proofs.YtfhkmgcalcfibaaGreat
/- THE CELL 'sum', in the pinned program and in every row, IS THE sha256 OF THE DUMP (.gsa) THAT YtfhkmgcalcfibaaGreatProg.lean LOADS. Nothing in Lean hashes anything: it is a label: what it is worth is what the hold of that sum in a sandbox is worth. -/
noncomputable def Tryz.pinned : Pinned := { name := "ytfhkmgcalcfibaagreat", sum := "d87dfa77027e3fecdf53f499a4973add24b8a2efb1f2353ea9c7ccfcff04af0a", checked := Tryz.checked }
namespace Rows
def none {H : Type} : Left H := { results := [], args := [] }

/-- 'multihoplaw31.RouterNoCircles': WHATEVER THE INPUT: true; the input reads as it did. -/
def routerNoCirclesSpec : ChangeSpec := { name := "routerNoCircles", fn := fun _ => fun
  | [d1, d2, d3] => { results := [.lit (.bool true)], args := [d1, d2, d3] }
  | _ => none }
def routerNoCirclesRow : OpenClaim := { program := "ytfhkmgcalcfibaagreat", sum := "d87dfa77027e3fecdf53f499a4973add24b8a2efb1f2353ea9c7ccfcff04af0a", func := "multihop/multihoplaw31.RouterNoCircles", spec := "routerNoCircles", inPlace := ["internal/bytealg.Compare", "slices.overlaps[multihop/api.Adjacency]", "slices.overlaps[multihop/api.Route]", "slices.overlaps[multihop/api.Source]", "slices.overlaps[multihop/api.Request]"], unfollowed := true, recurses := true, plainKeys := false, apart := false }
def RouterNoCirclesSaid : Prop := routerNoCirclesRow.holds Tryz.pinned (OpenSpec.ofChange routerNoCirclesSpec)

/-- ITS FALSE NEIGHBOUR: 'it returns false'. Refute it at one input. -/
def routerNoCirclesWrong : ChangeSpec := { name := "routerNoCircles", fn := fun _ => fun
  | [d1, d2, d3] => { results := [.lit (.bool false)], args := [d1, d2, d3] }
  | _ => none }
def RouterNoCirclesWrongFalsely : Prop := routerNoCirclesRow.holds Tryz.pinned (OpenSpec.ofChange routerNoCirclesWrong)

/-- 'multihoplaw31.RouterShortest': WHATEVER THE INPUT: true; the input reads as it did. -/
def routerShortestSpec : ChangeSpec := { name := "routerShortest", fn := fun _ => fun
  | [d1, d2, d3] => { results := [.lit (.bool true)], args := [d1, d2, d3] }
  | _ => none }
def routerShortestRow : OpenClaim := { program := "ytfhkmgcalcfibaagreat", sum := "d87dfa77027e3fecdf53f499a4973add24b8a2efb1f2353ea9c7ccfcff04af0a", func := "multihop/multihoplaw31.RouterShortest", spec := "routerShortest", inPlace := ["internal/bytealg.Compare", "slices.overlaps[multihop/api.Adjacency]", "slices.overlaps[multihop/api.Route]", "slices.overlaps[multihop/api.Source]", "slices.overlaps[multihop/api.Request]"], unfollowed := true, recurses := true, plainKeys := false, apart := false }
def RouterShortestSaid : Prop := routerShortestRow.holds Tryz.pinned (OpenSpec.ofChange routerShortestSpec)

/-- ITS FALSE NEIGHBOUR: 'it returns false'. Refute it at one input. -/
def routerShortestWrong : ChangeSpec := { name := "routerShortest", fn := fun _ => fun
  | [d1, d2, d3] => { results := [.lit (.bool false)], args := [d1, d2, d3] }
  | _ => none }
def RouterShortestWrongFalsely : Prop := routerShortestRow.holds Tryz.pinned (OpenSpec.ofChange routerShortestWrong)

/-- 'multihoplaw31.RouterBounded': WHATEVER THE INPUT: true; the input reads as it did. -/
def routerBoundedSpec : ChangeSpec := { name := "routerBounded", fn := fun _ => fun
  | [d] => { results := [.lit (.bool true)], args := [d] }
  | _ => none }
def routerBoundedRow : OpenClaim := { program := "ytfhkmgcalcfibaagreat", sum := "d87dfa77027e3fecdf53f499a4973add24b8a2efb1f2353ea9c7ccfcff04af0a", func := "multihop/multihoplaw31.RouterBounded", spec := "routerBounded", inPlace := ["internal/bytealg.Compare", "slices.overlaps[multihop/api.Request]", "slices.overlaps[multihop/api.Source]", "slices.overlaps[multihop/api.Adjacency]", "slices.overlaps[multihop/api.Route]"], unfollowed := true, recurses := true, plainKeys := false, apart := false }
def RouterBoundedSaid : Prop := routerBoundedRow.holds Tryz.pinned (OpenSpec.ofChange routerBoundedSpec)

/-- ITS FALSE NEIGHBOUR: 'it returns false'. Refute it at one input. -/
def routerBoundedWrong : ChangeSpec := { name := "routerBounded", fn := fun _ => fun
  | [d] => { results := [.lit (.bool false)], args := [d] }
  | _ => none }
def RouterBoundedWrongFalsely : Prop := routerBoundedRow.holds Tryz.pinned (OpenSpec.ofChange routerBoundedWrong)

/-- 'multihoplaw31.RouterStarts': WHATEVER THE INPUT: true; the input reads as it did. -/
def routerStartsSpec : ChangeSpec := { name := "routerStarts", fn := fun _ => fun
  | [d1, d2, d3, d4, d5] => { results := [.lit (.bool true)], args := [d1, d2, d3, d4, d5] }
  | _ => none }
def routerStartsRow : OpenClaim := { program := "ytfhkmgcalcfibaagreat", sum := "d87dfa77027e3fecdf53f499a4973add24b8a2efb1f2353ea9c7ccfcff04af0a", func := "multihop/multihoplaw31.RouterStarts", spec := "routerStarts", inPlace := ["internal/bytealg.Compare", "slices.overlaps[multihop/api.Request]", "slices.overlaps[multihop/api.Source]", "slices.overlaps[multihop/api.Adjacency]", "slices.overlaps[multihop/api.Route]"], unfollowed := true, recurses := true, plainKeys := false, apart := false }
def RouterStartsSaid : Prop := routerStartsRow.holds Tryz.pinned (OpenSpec.ofChange routerStartsSpec)

/-- ITS FALSE NEIGHBOUR: 'it returns false'. Refute it at one input. -/
def routerStartsWrong : ChangeSpec := { name := "routerStarts", fn := fun _ => fun
  | [d1, d2, d3, d4, d5] => { results := [.lit (.bool false)], args := [d1, d2, d3, d4, d5] }
  | _ => none }
def RouterStartsWrongFalsely : Prop := routerStartsRow.holds Tryz.pinned (OpenSpec.ofChange routerStartsWrong)

/-- 'multihoplaw31.RouterTells': WHATEVER THE INPUT: true; the input reads as it did. -/
def routerTellsSpec : ChangeSpec := { name := "routerTells", fn := fun _ => fun
  | [d1, d2] => { results := [.lit (.bool true)], args := [d1, d2] }
  | _ => none }
def routerTellsRow : OpenClaim := { program := "ytfhkmgcalcfibaagreat", sum := "d87dfa77027e3fecdf53f499a4973add24b8a2efb1f2353ea9c7ccfcff04af0a", func := "multihop/multihoplaw31.RouterTells", spec := "routerTells", inPlace := ["internal/bytealg.Compare", "slices.overlaps[multihop/api.Request]", "slices.overlaps[multihop/api.Source]", "slices.overlaps[multihop/api.Adjacency]", "slices.overlaps[multihop/api.Route]"], unfollowed := true, recurses := true, plainKeys := false, apart := false }
def RouterTellsSaid : Prop := routerTellsRow.holds Tryz.pinned (OpenSpec.ofChange routerTellsSpec)

/-- ITS FALSE NEIGHBOUR: 'it returns false'. Refute it at one input. -/
def routerTellsWrong : ChangeSpec := { name := "routerTells", fn := fun _ => fun
  | [d1, d2] => { results := [.lit (.bool false)], args := [d1, d2] }
  | _ => none }
def RouterTellsWrongFalsely : Prop := routerTellsRow.holds Tryz.pinned (OpenSpec.ofChange routerTellsWrong)

/-- 'multihoplaw31.RouterTicks': WHATEVER THE INPUT: true; the input reads as it did. -/
def routerTicksSpec : ChangeSpec := { name := "routerTicks", fn := fun _ => fun
  | [d1, d2, d3] => { results := [.lit (.bool true)], args := [d1, d2, d3] }
  | _ => none }
def routerTicksRow : OpenClaim := { program := "ytfhkmgcalcfibaagreat", sum := "d87dfa77027e3fecdf53f499a4973add24b8a2efb1f2353ea9c7ccfcff04af0a", func := "multihop/multihoplaw31.RouterTicks", spec := "routerTicks", inPlace := ["internal/bytealg.Compare", "slices.overlaps[multihop/api.Request]", "slices.overlaps[multihop/api.Source]", "slices.overlaps[multihop/api.Adjacency]", "slices.overlaps[multihop/api.Route]"], unfollowed := true, recurses := true, plainKeys := false, apart := false }
def RouterTicksSaid : Prop := routerTicksRow.holds Tryz.pinned (OpenSpec.ofChange routerTicksSpec)

/-- ITS FALSE NEIGHBOUR: 'it returns false'. Refute it at one input. -/
def routerTicksWrong : ChangeSpec := { name := "routerTicks", fn := fun _ => fun
  | [d1, d2, d3] => { results := [.lit (.bool false)], args := [d1, d2, d3] }
  | _ => none }
def RouterTicksWrongFalsely : Prop := routerTicksRow.holds Tryz.pinned (OpenSpec.ofChange routerTicksWrong)

/-- 'multihoplaw31.RouterHears': WHATEVER THE INPUT: true; the input reads as it did. -/
def routerHearsSpec : ChangeSpec := { name := "routerHears", fn := fun _ => fun
  | [d1, d2, d3, d4, d5, d6] => { results := [.lit (.bool true)], args := [d1, d2, d3, d4, d5, d6] }
  | _ => none }
def routerHearsRow : OpenClaim := { program := "ytfhkmgcalcfibaagreat", sum := "d87dfa77027e3fecdf53f499a4973add24b8a2efb1f2353ea9c7ccfcff04af0a", func := "multihop/multihoplaw31.RouterHears", spec := "routerHears", inPlace := ["internal/bytealg.Compare", "slices.overlaps[multihop/api.Request]", "slices.overlaps[multihop/api.Source]", "slices.overlaps[multihop/api.Adjacency]", "slices.overlaps[multihop/api.Route]"], unfollowed := true, recurses := true, plainKeys := false, apart := false }
def RouterHearsSaid : Prop := routerHearsRow.holds Tryz.pinned (OpenSpec.ofChange routerHearsSpec)

/-- ITS FALSE NEIGHBOUR: 'it returns false'. Refute it at one input. -/
def routerHearsWrong : ChangeSpec := { name := "routerHears", fn := fun _ => fun
  | [d1, d2, d3, d4, d5, d6] => { results := [.lit (.bool false)], args := [d1, d2, d3, d4, d5, d6] }
  | _ => none }
def RouterHearsWrongFalsely : Prop := routerHearsRow.holds Tryz.pinned (OpenSpec.ofChange routerHearsWrong)

/-- 'multihoplaw31.RouterForwards': WHATEVER THE INPUT: true; the input reads as it did. -/
def routerForwardsSpec : ChangeSpec := { name := "routerForwards", fn := fun _ => fun
  | [d1, d2, d3, d4, d5, d6, d7] => { results := [.lit (.bool true)], args := [d1, d2, d3, d4, d5, d6, d7] }
  | _ => none }
def routerForwardsRow : OpenClaim := { program := "ytfhkmgcalcfibaagreat", sum := "d87dfa77027e3fecdf53f499a4973add24b8a2efb1f2353ea9c7ccfcff04af0a", func := "multihop/multihoplaw31.RouterForwards", spec := "routerForwards", inPlace := ["internal/bytealg.Compare", "slices.overlaps[multihop/api.Request]", "slices.overlaps[multihop/api.Source]", "slices.overlaps[multihop/api.Adjacency]", "slices.overlaps[multihop/api.Route]"], unfollowed := true, recurses := true, plainKeys := false, apart := false }
def RouterForwardsSaid : Prop := routerForwardsRow.holds Tryz.pinned (OpenSpec.ofChange routerForwardsSpec)

/-- ITS FALSE NEIGHBOUR: 'it returns false'. Refute it at one input. -/
def routerForwardsWrong : ChangeSpec := { name := "routerForwards", fn := fun _ => fun
  | [d1, d2, d3, d4, d5, d6, d7] => { results := [.lit (.bool false)], args := [d1, d2, d3, d4, d5, d6, d7] }
  | _ => none }
def RouterForwardsWrongFalsely : Prop := routerForwardsRow.holds Tryz.pinned (OpenSpec.ofChange routerForwardsWrong)

/- THE SECOND FORM. 'bulk': how many values and letters a reading holds, each counted each time it is reached (what is shared counts as often as it is met; a slice's spare places count too). A statement '..UptoSaid' is the law's where the arguments, and the package variables that the reading takes, are together of bulk at most 1048576: NARROWER than '..Said'. Prove '..Said' where nothing that the law and all that it calls make is longer than what came in: it says more and counts as full. Else prove '..UptoSaid'. A law counts once. -/
mutual
def uptoBulk {H : Type} : DataW H → Nat
  | .lit (.string bytes) => bytes.length + 1
  | .lit _ => 1
  | .nil => 1
  | .ptr d => uptoBulk d + 1
  | .slice elems spare => uptoBulkAll elems + uptoBulkAll spare + 1
  | .agg parts => uptoBulkAll parts + 1
  | .iface _ d => uptoBulk d + 1
  | .map entries => uptoBulkEntries entries + 1
  | .held _ => 1
def uptoBulkAll {H : Type} : List (DataW H) → Nat
  | [] => 0
  | d :: r => uptoBulk d + uptoBulkAll r
def uptoBulkEntries {H : Type} : List (Lit × DataW H) → Nat
  | [] => 0
  | x :: r => uptoBulkEntry x + uptoBulkEntries r
def uptoBulkEntry {H : Type} : Lit × DataW H → Nat
  | (.string bytes, d) => bytes.length + uptoBulk d + 1
  | (_, d) => uptoBulk d + 1
 end
def uptoSmall : (H : Type) → List (DataW H) → Bool := fun _ ds => decide (uptoBulkAll ds ≤ 1048576)
def OpenSpec.upto (s : _root_.Go.ChangeSpec) : _root_.Go.OpenSpec := { _root_.Go.OpenSpec.ofChange s with cond := some uptoSmall }

/-- 'multihoplaw31.RouterNoCircles', WHERE WHAT IT READS IS OF BULK AT MOST 1048576: true; the input reads as it did. -/
def routerNoCirclesUptoRow : OpenClaim := { program := "ytfhkmgcalcfibaagreat", sum := "d87dfa77027e3fecdf53f499a4973add24b8a2efb1f2353ea9c7ccfcff04af0a", func := "multihop/multihoplaw31.RouterNoCircles", spec := "routerNoCircles", inPlace := ["internal/bytealg.Compare", "slices.overlaps[multihop/api.Adjacency]", "slices.overlaps[multihop/api.Route]", "slices.overlaps[multihop/api.Source]", "slices.overlaps[multihop/api.Request]"], unfollowed := true, recurses := true, plainKeys := false, apart := false, narrowed := true }
def RouterNoCirclesUptoSaid : Prop := routerNoCirclesUptoRow.holds Tryz.pinned (OpenSpec.upto routerNoCirclesSpec)

/-- 'multihoplaw31.RouterShortest', WHERE WHAT IT READS IS OF BULK AT MOST 1048576: true; the input reads as it did. -/
def routerShortestUptoRow : OpenClaim := { program := "ytfhkmgcalcfibaagreat", sum := "d87dfa77027e3fecdf53f499a4973add24b8a2efb1f2353ea9c7ccfcff04af0a", func := "multihop/multihoplaw31.RouterShortest", spec := "routerShortest", inPlace := ["internal/bytealg.Compare", "slices.overlaps[multihop/api.Adjacency]", "slices.overlaps[multihop/api.Route]", "slices.overlaps[multihop/api.Source]", "slices.overlaps[multihop/api.Request]"], unfollowed := true, recurses := true, plainKeys := false, apart := false, narrowed := true }
def RouterShortestUptoSaid : Prop := routerShortestUptoRow.holds Tryz.pinned (OpenSpec.upto routerShortestSpec)

/-- 'multihoplaw31.RouterBounded', WHERE WHAT IT READS IS OF BULK AT MOST 1048576: true; the input reads as it did. -/
def routerBoundedUptoRow : OpenClaim := { program := "ytfhkmgcalcfibaagreat", sum := "d87dfa77027e3fecdf53f499a4973add24b8a2efb1f2353ea9c7ccfcff04af0a", func := "multihop/multihoplaw31.RouterBounded", spec := "routerBounded", inPlace := ["internal/bytealg.Compare", "slices.overlaps[multihop/api.Request]", "slices.overlaps[multihop/api.Source]", "slices.overlaps[multihop/api.Adjacency]", "slices.overlaps[multihop/api.Route]"], unfollowed := true, recurses := true, plainKeys := false, apart := false, narrowed := true }
def RouterBoundedUptoSaid : Prop := routerBoundedUptoRow.holds Tryz.pinned (OpenSpec.upto routerBoundedSpec)

/-- 'multihoplaw31.RouterStarts', WHERE WHAT IT READS IS OF BULK AT MOST 1048576: true; the input reads as it did. -/
def routerStartsUptoRow : OpenClaim := { program := "ytfhkmgcalcfibaagreat", sum := "d87dfa77027e3fecdf53f499a4973add24b8a2efb1f2353ea9c7ccfcff04af0a", func := "multihop/multihoplaw31.RouterStarts", spec := "routerStarts", inPlace := ["internal/bytealg.Compare", "slices.overlaps[multihop/api.Request]", "slices.overlaps[multihop/api.Source]", "slices.overlaps[multihop/api.Adjacency]", "slices.overlaps[multihop/api.Route]"], unfollowed := true, recurses := true, plainKeys := false, apart := false, narrowed := true }
def RouterStartsUptoSaid : Prop := routerStartsUptoRow.holds Tryz.pinned (OpenSpec.upto routerStartsSpec)

/-- 'multihoplaw31.RouterTells', WHERE WHAT IT READS IS OF BULK AT MOST 1048576: true; the input reads as it did. -/
def routerTellsUptoRow : OpenClaim := { program := "ytfhkmgcalcfibaagreat", sum := "d87dfa77027e3fecdf53f499a4973add24b8a2efb1f2353ea9c7ccfcff04af0a", func := "multihop/multihoplaw31.RouterTells", spec := "routerTells", inPlace := ["internal/bytealg.Compare", "slices.overlaps[multihop/api.Request]", "slices.overlaps[multihop/api.Source]", "slices.overlaps[multihop/api.Adjacency]", "slices.overlaps[multihop/api.Route]"], unfollowed := true, recurses := true, plainKeys := false, apart := false, narrowed := true }
def RouterTellsUptoSaid : Prop := routerTellsUptoRow.holds Tryz.pinned (OpenSpec.upto routerTellsSpec)

/-- 'multihoplaw31.RouterTicks', WHERE WHAT IT READS IS OF BULK AT MOST 1048576: true; the input reads as it did. -/
def routerTicksUptoRow : OpenClaim := { program := "ytfhkmgcalcfibaagreat", sum := "d87dfa77027e3fecdf53f499a4973add24b8a2efb1f2353ea9c7ccfcff04af0a", func := "multihop/multihoplaw31.RouterTicks", spec := "routerTicks", inPlace := ["internal/bytealg.Compare", "slices.overlaps[multihop/api.Request]", "slices.overlaps[multihop/api.Source]", "slices.overlaps[multihop/api.Adjacency]", "slices.overlaps[multihop/api.Route]"], unfollowed := true, recurses := true, plainKeys := false, apart := false, narrowed := true }
def RouterTicksUptoSaid : Prop := routerTicksUptoRow.holds Tryz.pinned (OpenSpec.upto routerTicksSpec)

/-- 'multihoplaw31.RouterHears', WHERE WHAT IT READS IS OF BULK AT MOST 1048576: true; the input reads as it did. -/
def routerHearsUptoRow : OpenClaim := { program := "ytfhkmgcalcfibaagreat", sum := "d87dfa77027e3fecdf53f499a4973add24b8a2efb1f2353ea9c7ccfcff04af0a", func := "multihop/multihoplaw31.RouterHears", spec := "routerHears", inPlace := ["internal/bytealg.Compare", "slices.overlaps[multihop/api.Request]", "slices.overlaps[multihop/api.Source]", "slices.overlaps[multihop/api.Adjacency]", "slices.overlaps[multihop/api.Route]"], unfollowed := true, recurses := true, plainKeys := false, apart := false, narrowed := true }
def RouterHearsUptoSaid : Prop := routerHearsUptoRow.holds Tryz.pinned (OpenSpec.upto routerHearsSpec)

/-- 'multihoplaw31.RouterForwards', WHERE WHAT IT READS IS OF BULK AT MOST 1048576: true; the input reads as it did. -/
def routerForwardsUptoRow : OpenClaim := { program := "ytfhkmgcalcfibaagreat", sum := "d87dfa77027e3fecdf53f499a4973add24b8a2efb1f2353ea9c7ccfcff04af0a", func := "multihop/multihoplaw31.RouterForwards", spec := "routerForwards", inPlace := ["internal/bytealg.Compare", "slices.overlaps[multihop/api.Request]", "slices.overlaps[multihop/api.Source]", "slices.overlaps[multihop/api.Adjacency]", "slices.overlaps[multihop/api.Route]"], unfollowed := true, recurses := true, plainKeys := false, apart := false, narrowed := true }
def RouterForwardsUptoSaid : Prop := routerForwardsUptoRow.holds Tryz.pinned (OpenSpec.upto routerForwardsSpec)

end Rows
end Go.Proofs.YtfhkmgcalcfibaaGreat
