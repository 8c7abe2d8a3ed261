/-
  No cell of these rows narrows 'for every input' (looked for: loops, veiled, ifaces, maps, wideKeys, modest, calm, conditions, laid).
  DERIVED. THE GIVEN ROWS OF THIS SEAT. 6 by the template 'for every input the law returns true; each argument reads behind the call as it read before'; 0 by the template 'total and deterministic' (their statements: YtilgoepokaaleaaTotals.lean).
  GIVEN WITH THE SEED: the statements are not yours to turn. If you find one false, say at which input.
  Laid BY PROGRAM, IN A SANDBOX (cutbox-rows.mjs): the forced cells as the released guide's own fill.sh prints them over the translation 13c91c7c40ec5dd4… (all of the seat's roots in one cut). By AI agents, Wed Nov 11 2026. No macro, syntax, notation, axiom, sorry.
-/
import Derived.Test.YtilgoepokaaleaaChecked
import GoSem.Claim
import GoSem.ClaimJoined
import GoSem.ClaimMapViews
import Derived.JoinedTies
import Derived.KernelRfl
namespace Go.Proofs.Ytilgoepokaaleaa
/- THE CELL 'sum', in the pinned program and in every row, IS THE sha256 OF THE DUMP (.gsa) THAT YtilgoepokaaleaaProg.lean LOADS. Nothing in Lean hashes anything: it is a label: what it is worth is what the hold of that sum in a sandbox is worth. -/
noncomputable def Try.pinned : Pinned := { name := "ytilgoepokaaleaa", sum := "13c91c7c40ec5dd4462e03f80ee776f2b3a29752865564e669b19a17ae4219f5", checked := Try.checked }
namespace Rows
def none {H : Type} : Left H := { results := [], args := [] }

/-- 'multihoplaw30.UpdatesForms': WHATEVER THE INPUT: true; the input reads as it did. -/
def updatesFormsSpec : ChangeSpec := { name := "updatesForms", fn := fun _ => fun
  | [d1, d2, d3, d4] => { results := [.lit (.bool true)], args := [d1, d2, d3, d4] }
  | _ => none }
def updatesFormsRow : OpenClaim := { program := "ytilgoepokaaleaa", sum := "13c91c7c40ec5dd4462e03f80ee776f2b3a29752865564e669b19a17ae4219f5", func := "multihop/multihoplaw30.UpdatesForms", spec := "updatesForms", inPlace := ["internal/bytealg.Compare"], unfollowed := true, recurses := true, plainKeys := false, apart := false }
def UpdatesFormsSaid : Prop := updatesFormsRow.holds Try.pinned (OpenSpec.ofChange updatesFormsSpec)

/-- ITS FALSE NEIGHBOUR: 'it returns false'. Refute it at one input. -/
def updatesFormsWrong : ChangeSpec := { name := "updatesForms", fn := fun _ => fun
  | [d1, d2, d3, d4] => { results := [.lit (.bool false)], args := [d1, d2, d3, d4] }
  | _ => none }
def UpdatesFormsWrongFalsely : Prop := updatesFormsRow.holds Try.pinned (OpenSpec.ofChange updatesFormsWrong)

/-- 'multihoplaw30.UpdatesFollow': WHATEVER THE INPUT: true; the input reads as it did. -/
def updatesFollowSpec : ChangeSpec := { name := "updatesFollow", fn := fun _ => fun
  | [d] => { results := [.lit (.bool true)], args := [d] }
  | _ => none }
def updatesFollowRow : OpenClaim := { program := "ytilgoepokaaleaa", sum := "13c91c7c40ec5dd4462e03f80ee776f2b3a29752865564e669b19a17ae4219f5", func := "multihop/multihoplaw30.UpdatesFollow", spec := "updatesFollow", inPlace := ["internal/bytealg.Compare"], unfollowed := true, recurses := true, plainKeys := false, apart := false }
def UpdatesFollowSaid : Prop := updatesFollowRow.holds Try.pinned (OpenSpec.ofChange updatesFollowSpec)

/-- ITS FALSE NEIGHBOUR: 'it returns false'. Refute it at one input. -/
def updatesFollowWrong : ChangeSpec := { name := "updatesFollow", fn := fun _ => fun
  | [d] => { results := [.lit (.bool false)], args := [d] }
  | _ => none }
def UpdatesFollowWrongFalsely : Prop := updatesFollowRow.holds Try.pinned (OpenSpec.ofChange updatesFollowWrong)

/-- 'multihoplaw30.UpdatesCatch': WHATEVER THE INPUT: true; the input reads as it did. -/
def updatesCatchSpec : ChangeSpec := { name := "updatesCatch", fn := fun _ => fun
  | [d] => { results := [.lit (.bool true)], args := [d] }
  | _ => none }
def updatesCatchRow : OpenClaim := { program := "ytilgoepokaaleaa", sum := "13c91c7c40ec5dd4462e03f80ee776f2b3a29752865564e669b19a17ae4219f5", func := "multihop/multihoplaw30.UpdatesCatch", spec := "updatesCatch", inPlace := ["internal/bytealg.Compare"], unfollowed := true, recurses := true, plainKeys := false, apart := false }
def UpdatesCatchSaid : Prop := updatesCatchRow.holds Try.pinned (OpenSpec.ofChange updatesCatchSpec)

/-- ITS FALSE NEIGHBOUR: 'it returns false'. Refute it at one input. -/
def updatesCatchWrong : ChangeSpec := { name := "updatesCatch", fn := fun _ => fun
  | [d] => { results := [.lit (.bool false)], args := [d] }
  | _ => none }
def UpdatesCatchWrongFalsely : Prop := updatesCatchRow.holds Try.pinned (OpenSpec.ofChange updatesCatchWrong)

/-- 'multihoplaw30.UpdatesQuiet': WHATEVER THE INPUT: true; the input reads as it did. -/
def updatesQuietSpec : ChangeSpec := { name := "updatesQuiet", fn := fun _ => fun
  | [d] => { results := [.lit (.bool true)], args := [d] }
  | _ => none }
def updatesQuietRow : OpenClaim := { program := "ytilgoepokaaleaa", sum := "13c91c7c40ec5dd4462e03f80ee776f2b3a29752865564e669b19a17ae4219f5", func := "multihop/multihoplaw30.UpdatesQuiet", spec := "updatesQuiet", inPlace := ["internal/bytealg.Compare"], unfollowed := true, recurses := true, plainKeys := false, apart := false }
def UpdatesQuietSaid : Prop := updatesQuietRow.holds Try.pinned (OpenSpec.ofChange updatesQuietSpec)

/-- ITS FALSE NEIGHBOUR: 'it returns false'. Refute it at one input. -/
def updatesQuietWrong : ChangeSpec := { name := "updatesQuiet", fn := fun _ => fun
  | [d] => { results := [.lit (.bool false)], args := [d] }
  | _ => none }
def UpdatesQuietWrongFalsely : Prop := updatesQuietRow.holds Try.pinned (OpenSpec.ofChange updatesQuietWrong)

/-- 'multihoplaw27.RoutesNarrows': WHATEVER THE INPUT: true; the input reads as it did. -/
def routesNarrowsSpec : ChangeSpec := { name := "routesNarrows", fn := fun _ => fun
  | [d] => { results := [.lit (.bool true)], args := [d] }
  | _ => none }
def routesNarrowsRow : OpenClaim := { program := "ytilgoepokaaleaa", sum := "13c91c7c40ec5dd4462e03f80ee776f2b3a29752865564e669b19a17ae4219f5", func := "multihop/multihoplaw27.RoutesNarrows", spec := "routesNarrows", inPlace := ["internal/bytealg.Compare", "slices.overlaps[multihop/api.Route]"], unfollowed := true, recurses := true, plainKeys := false, apart := false }
def RoutesNarrowsSaid : Prop := routesNarrowsRow.holds Try.pinned (OpenSpec.ofChange routesNarrowsSpec)

/-- ITS FALSE NEIGHBOUR: 'it returns false'. Refute it at one input. -/
def routesNarrowsWrong : ChangeSpec := { name := "routesNarrows", fn := fun _ => fun
  | [d] => { results := [.lit (.bool false)], args := [d] }
  | _ => none }
def RoutesNarrowsWrongFalsely : Prop := routesNarrowsRow.holds Try.pinned (OpenSpec.ofChange routesNarrowsWrong)

/-- 'multihoplaw27.RoutesHolds': WHATEVER THE INPUT: true; the input reads as it did. -/
def routesHoldsSpec : ChangeSpec := { name := "routesHolds", fn := fun _ => fun
  | [d1, d2, d3, d4, d5] => { results := [.lit (.bool true)], args := [d1, d2, d3, d4, d5] }
  | _ => none }
def routesHoldsRow : OpenClaim := { program := "ytilgoepokaaleaa", sum := "13c91c7c40ec5dd4462e03f80ee776f2b3a29752865564e669b19a17ae4219f5", func := "multihop/multihoplaw27.RoutesHolds", spec := "routesHolds", inPlace := ["internal/bytealg.Compare", "slices.overlaps[multihop/api.Route]"], unfollowed := true, recurses := true, plainKeys := false, apart := false }
def RoutesHoldsSaid : Prop := routesHoldsRow.holds Try.pinned (OpenSpec.ofChange routesHoldsSpec)

/-- ITS FALSE NEIGHBOUR: 'it returns false'. Refute it at one input. -/
def routesHoldsWrong : ChangeSpec := { name := "routesHolds", fn := fun _ => fun
  | [d1, d2, d3, d4, d5] => { results := [.lit (.bool false)], args := [d1, d2, d3, d4, d5] }
  | _ => none }
def RoutesHoldsWrongFalsely : Prop := routesHoldsRow.holds Try.pinned (OpenSpec.ofChange routesHoldsWrong)

/- THE SECOND FORM. 'bulk': how many values and letters a reading holds, each counted each time it is reached (what is shared counts as often as it is met; a slice's spare places count too). A statement '..UptoSaid' is the law's where the arguments, and the package variables that the reading takes, are together of bulk at most 1048576: NARROWER than '..Said'. Prove '..Said' where nothing that the law and all that it calls make is longer than what came in: it says more and counts as full. Else prove '..UptoSaid'. A law counts once. -/
mutual
def uptoBulk {H : Type} : DataW H → Nat
  | .lit (.string bytes) => bytes.length + 1
  | .lit _ => 1
  | .nil => 1
  | .ptr d => uptoBulk d + 1
  | .slice elems spare => uptoBulkAll elems + uptoBulkAll spare + 1
  | .agg parts => uptoBulkAll parts + 1
  | .iface _ d => uptoBulk d + 1
  | .map entries => uptoBulkEntries entries + 1
  | .held _ => 1
def uptoBulkAll {H : Type} : List (DataW H) → Nat
  | [] => 0
  | d :: r => uptoBulk d + uptoBulkAll r
def uptoBulkEntries {H : Type} : List (Lit × DataW H) → Nat
  | [] => 0
  | x :: r => uptoBulkEntry x + uptoBulkEntries r
def uptoBulkEntry {H : Type} : Lit × DataW H → Nat
  | (.string bytes, d) => bytes.length + uptoBulk d + 1
  | (_, d) => uptoBulk d + 1
 end
def uptoSmall : (H : Type) → List (DataW H) → Bool := fun _ ds => decide (uptoBulkAll ds ≤ 1048576)
def OpenSpec.upto (s : _root_.Go.ChangeSpec) : _root_.Go.OpenSpec := { _root_.Go.OpenSpec.ofChange s with cond := some uptoSmall }

/-- 'multihoplaw30.UpdatesForms', WHERE WHAT IT READS IS OF BULK AT MOST 1048576: true; the input reads as it did. -/
def updatesFormsUptoRow : OpenClaim := { program := "ytilgoepokaaleaa", sum := "13c91c7c40ec5dd4462e03f80ee776f2b3a29752865564e669b19a17ae4219f5", func := "multihop/multihoplaw30.UpdatesForms", spec := "updatesForms", inPlace := ["internal/bytealg.Compare"], unfollowed := true, recurses := true, plainKeys := false, apart := false, narrowed := true }
def UpdatesFormsUptoSaid : Prop := updatesFormsUptoRow.holds Try.pinned (OpenSpec.upto updatesFormsSpec)

/-- 'multihoplaw30.UpdatesFollow', WHERE WHAT IT READS IS OF BULK AT MOST 1048576: true; the input reads as it did. -/
def updatesFollowUptoRow : OpenClaim := { program := "ytilgoepokaaleaa", sum := "13c91c7c40ec5dd4462e03f80ee776f2b3a29752865564e669b19a17ae4219f5", func := "multihop/multihoplaw30.UpdatesFollow", spec := "updatesFollow", inPlace := ["internal/bytealg.Compare"], unfollowed := true, recurses := true, plainKeys := false, apart := false, narrowed := true }
def UpdatesFollowUptoSaid : Prop := updatesFollowUptoRow.holds Try.pinned (OpenSpec.upto updatesFollowSpec)

/-- 'multihoplaw30.UpdatesCatch', WHERE WHAT IT READS IS OF BULK AT MOST 1048576: true; the input reads as it did. -/
def updatesCatchUptoRow : OpenClaim := { program := "ytilgoepokaaleaa", sum := "13c91c7c40ec5dd4462e03f80ee776f2b3a29752865564e669b19a17ae4219f5", func := "multihop/multihoplaw30.UpdatesCatch", spec := "updatesCatch", inPlace := ["internal/bytealg.Compare"], unfollowed := true, recurses := true, plainKeys := false, apart := false, narrowed := true }
def UpdatesCatchUptoSaid : Prop := updatesCatchUptoRow.holds Try.pinned (OpenSpec.upto updatesCatchSpec)

/-- 'multihoplaw30.UpdatesQuiet', WHERE WHAT IT READS IS OF BULK AT MOST 1048576: true; the input reads as it did. -/
def updatesQuietUptoRow : OpenClaim := { program := "ytilgoepokaaleaa", sum := "13c91c7c40ec5dd4462e03f80ee776f2b3a29752865564e669b19a17ae4219f5", func := "multihop/multihoplaw30.UpdatesQuiet", spec := "updatesQuiet", inPlace := ["internal/bytealg.Compare"], unfollowed := true, recurses := true, plainKeys := false, apart := false, narrowed := true }
def UpdatesQuietUptoSaid : Prop := updatesQuietUptoRow.holds Try.pinned (OpenSpec.upto updatesQuietSpec)

/-- 'multihoplaw27.RoutesNarrows', WHERE WHAT IT READS IS OF BULK AT MOST 1048576: true; the input reads as it did. -/
def routesNarrowsUptoRow : OpenClaim := { program := "ytilgoepokaaleaa", sum := "13c91c7c40ec5dd4462e03f80ee776f2b3a29752865564e669b19a17ae4219f5", func := "multihop/multihoplaw27.RoutesNarrows", spec := "routesNarrows", inPlace := ["internal/bytealg.Compare", "slices.overlaps[multihop/api.Route]"], unfollowed := true, recurses := true, plainKeys := false, apart := false, narrowed := true }
def RoutesNarrowsUptoSaid : Prop := routesNarrowsUptoRow.holds Try.pinned (OpenSpec.upto routesNarrowsSpec)

/-- 'multihoplaw27.RoutesHolds', WHERE WHAT IT READS IS OF BULK AT MOST 1048576: true; the input reads as it did. -/
def routesHoldsUptoRow : OpenClaim := { program := "ytilgoepokaaleaa", sum := "13c91c7c40ec5dd4462e03f80ee776f2b3a29752865564e669b19a17ae4219f5", func := "multihop/multihoplaw27.RoutesHolds", spec := "routesHolds", inPlace := ["internal/bytealg.Compare", "slices.overlaps[multihop/api.Route]"], unfollowed := true, recurses := true, plainKeys := false, apart := false, narrowed := true }
def RoutesHoldsUptoSaid : Prop := routesHoldsUptoRow.holds Try.pinned (OpenSpec.upto routesHoldsSpec)

end Rows
end Go.Proofs.Ytilgoepokaaleaa
