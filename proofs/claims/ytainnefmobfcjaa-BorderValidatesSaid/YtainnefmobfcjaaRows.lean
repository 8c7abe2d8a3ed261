/-
  No cell of these rows narrows 'for every input' (looked for: loops, veiled, ifaces, maps, wideKeys, modest, calm, conditions, laid).
  DERIVED. THE GIVEN ROWS OF THIS SEAT. 5 by the template 'for every input the law returns true; each argument reads behind the call as it read before'; 0 by the template 'total and deterministic' (their statements: YtainnefmobfcjaaTotals.lean).
  GIVEN WITH THE SEED: the statements are not yours to turn. If you find one false, say at which input.
  Laid BY PROGRAM, IN A SANDBOX (cutbox-rows.mjs): the forced cells as the released guide's own fill.sh prints them over the translation 91af263870e70404… (all of the seat's roots in one cut). By AI agents, Wed Nov 11 2026. No macro, syntax, notation, axiom, sorry.
-/
import Derived.Test.YtainnefmobfcjaaChecked
import GoSem.Claim
import GoSem.ClaimJoined
import GoSem.ClaimMapViews
import Derived.JoinedTies
import Derived.KernelRfl
namespace Go.Proofs.Ytainnefmobfcjaa
/- THE CELL 'sum', in the pinned program and in every row, IS THE sha256 OF THE DUMP (.gsa) THAT YtainnefmobfcjaaProg.lean LOADS. Nothing in Lean hashes anything: it is a label: what it is worth is what the hold of that sum in a sandbox is worth. -/
noncomputable def Try.pinned : Pinned := { name := "ytainnefmobfcjaa", sum := "91af263870e70404549349b322dce0694cf4e3c0dfc795551e76523f7b8432fb", checked := Try.checked }
namespace Rows
def none {H : Type} : Left H := { results := [], args := [] }

/-- 'multihoplaw23.BorderDisjoint': WHATEVER THE INPUT: true; the input reads as it did. -/
def borderDisjointSpec : ChangeSpec := { name := "borderDisjoint", fn := fun _ => fun
  | [d1, d2] => { results := [.lit (.bool true)], args := [d1, d2] }
  | _ => none }
def borderDisjointRow : OpenClaim := { program := "ytainnefmobfcjaa", sum := "91af263870e70404549349b322dce0694cf4e3c0dfc795551e76523f7b8432fb", func := "multihop/multihoplaw23.BorderDisjoint", spec := "borderDisjoint", inPlace := ["internal/bytealg.Compare", "slices.overlaps[multihop/api.Lease]"], unfollowed := true, recurses := true, apart := false }
def BorderDisjointSaid : Prop := borderDisjointRow.holds Try.pinned (OpenSpec.ofChange borderDisjointSpec)

/-- ITS FALSE NEIGHBOUR: 'it returns false'. Refute it at one input. -/
def borderDisjointWrong : ChangeSpec := { name := "borderDisjoint", fn := fun _ => fun
  | [d1, d2] => { results := [.lit (.bool false)], args := [d1, d2] }
  | _ => none }
def BorderDisjointWrongFalsely : Prop := borderDisjointRow.holds Try.pinned (OpenSpec.ofChange borderDisjointWrong)

/-- 'multihoplaw23.BorderNewest': WHATEVER THE INPUT: true; the input reads as it did. -/
def borderNewestSpec : ChangeSpec := { name := "borderNewest", fn := fun _ => fun
  | [d] => { results := [.lit (.bool true)], args := [d] }
  | _ => none }
def borderNewestRow : OpenClaim := { program := "ytainnefmobfcjaa", sum := "91af263870e70404549349b322dce0694cf4e3c0dfc795551e76523f7b8432fb", func := "multihop/multihoplaw23.BorderNewest", spec := "borderNewest", inPlace := ["slices.overlaps[int]", "internal/bytealg.Compare", "slices.overlaps[multihop/api.Offer]"], unfollowed := true, recurses := true, apart := false }
def BorderNewestSaid : Prop := borderNewestRow.holds Try.pinned (OpenSpec.ofChange borderNewestSpec)

/-- ITS FALSE NEIGHBOUR: 'it returns false'. Refute it at one input. -/
def borderNewestWrong : ChangeSpec := { name := "borderNewest", fn := fun _ => fun
  | [d] => { results := [.lit (.bool false)], args := [d] }
  | _ => none }
def BorderNewestWrongFalsely : Prop := borderNewestRow.holds Try.pinned (OpenSpec.ofChange borderNewestWrong)

/-- 'multihoplaw23.BorderAccepts': WHATEVER THE INPUT: true; the input reads as it did. -/
def borderAcceptsSpec : ChangeSpec := { name := "borderAccepts", fn := fun _ => fun
  | [d1, d2, d3] => { results := [.lit (.bool true)], args := [d1, d2, d3] }
  | _ => none }
def borderAcceptsRow : OpenClaim := { program := "ytainnefmobfcjaa", sum := "91af263870e70404549349b322dce0694cf4e3c0dfc795551e76523f7b8432fb", func := "multihop/multihoplaw23.BorderAccepts", spec := "borderAccepts", inPlace := ["internal/bytealg.Compare", "slices.overlaps[multihop/api.Offer]"], unfollowed := true, recurses := true, apart := false }
def BorderAcceptsSaid : Prop := borderAcceptsRow.holds Try.pinned (OpenSpec.ofChange borderAcceptsSpec)

/-- ITS FALSE NEIGHBOUR: 'it returns false'. Refute it at one input. -/
def borderAcceptsWrong : ChangeSpec := { name := "borderAccepts", fn := fun _ => fun
  | [d1, d2, d3] => { results := [.lit (.bool false)], args := [d1, d2, d3] }
  | _ => none }
def BorderAcceptsWrongFalsely : Prop := borderAcceptsRow.holds Try.pinned (OpenSpec.ofChange borderAcceptsWrong)

/-- 'multihoplaw23.BorderOffers': WHATEVER THE INPUT: true; the input reads as it did. -/
def borderOffersSpec : ChangeSpec := { name := "borderOffers", fn := fun _ => fun
  | [d1, d2, d3] => { results := [.lit (.bool true)], args := [d1, d2, d3] }
  | _ => none }
def borderOffersRow : OpenClaim := { program := "ytainnefmobfcjaa", sum := "91af263870e70404549349b322dce0694cf4e3c0dfc795551e76523f7b8432fb", func := "multihop/multihoplaw23.BorderOffers", spec := "borderOffers", inPlace := ["internal/bytealg.Compare", "slices.overlaps[multihop/api.Offer]"], unfollowed := true, recurses := true, apart := false }
def BorderOffersSaid : Prop := borderOffersRow.holds Try.pinned (OpenSpec.ofChange borderOffersSpec)

/-- ITS FALSE NEIGHBOUR: 'it returns false'. Refute it at one input. -/
def borderOffersWrong : ChangeSpec := { name := "borderOffers", fn := fun _ => fun
  | [d1, d2, d3] => { results := [.lit (.bool false)], args := [d1, d2, d3] }
  | _ => none }
def BorderOffersWrongFalsely : Prop := borderOffersRow.holds Try.pinned (OpenSpec.ofChange borderOffersWrong)

/-- 'multihoplaw23.BorderValidates': WHATEVER THE INPUT: true; the input reads as it did. -/
def borderValidatesSpec : ChangeSpec := { name := "borderValidates", fn := fun _ => fun
  | [d1, d2, d3, d4] => { results := [.lit (.bool true)], args := [d1, d2, d3, d4] }
  | _ => none }
def borderValidatesRow : OpenClaim := { program := "ytainnefmobfcjaa", sum := "91af263870e70404549349b322dce0694cf4e3c0dfc795551e76523f7b8432fb", func := "multihop/multihoplaw23.BorderValidates", spec := "borderValidates", inPlace := ["internal/bytealg.Compare", "slices.overlaps[multihop/api.Offer]"], unfollowed := true, recurses := true, apart := false }
def BorderValidatesSaid : Prop := borderValidatesRow.holds Try.pinned (OpenSpec.ofChange borderValidatesSpec)

/-- ITS FALSE NEIGHBOUR: 'it returns false'. Refute it at one input. -/
def borderValidatesWrong : ChangeSpec := { name := "borderValidates", fn := fun _ => fun
  | [d1, d2, d3, d4] => { results := [.lit (.bool false)], args := [d1, d2, d3, d4] }
  | _ => none }
def BorderValidatesWrongFalsely : Prop := borderValidatesRow.holds Try.pinned (OpenSpec.ofChange borderValidatesWrong)

/- THE SECOND FORM. 'bulk': how many values and letters a reading holds, each counted each time it is reached (what is shared counts as often as it is met; a slice's spare places count too). A statement '..UptoSaid' is the law's where the arguments, and the package variables that the reading takes, are together of bulk at most 1048576: NARROWER than '..Said'. Prove '..Said' where nothing that the law and all that it calls make is longer than what came in: it says more and counts as full. Else prove '..UptoSaid'. A law counts once. -/
mutual
def uptoBulk {H : Type} : DataW H → Nat
  | .lit (.string bytes) => bytes.length + 1
  | .lit _ => 1
  | .nil => 1
  | .ptr d => uptoBulk d + 1
  | .slice elems spare => uptoBulkAll elems + uptoBulkAll spare + 1
  | .agg parts => uptoBulkAll parts + 1
  | .iface _ d => uptoBulk d + 1
  | .map entries => uptoBulkEntries entries + 1
  | .held _ => 1
def uptoBulkAll {H : Type} : List (DataW H) → Nat
  | [] => 0
  | d :: r => uptoBulk d + uptoBulkAll r
def uptoBulkEntries {H : Type} : List (Lit × DataW H) → Nat
  | [] => 0
  | x :: r => uptoBulkEntry x + uptoBulkEntries r
def uptoBulkEntry {H : Type} : Lit × DataW H → Nat
  | (.string bytes, d) => bytes.length + uptoBulk d + 1
  | (_, d) => uptoBulk d + 1
 end
def uptoSmall : (H : Type) → List (DataW H) → Bool := fun _ ds => decide (uptoBulkAll ds ≤ 1048576)
def OpenSpec.upto (s : _root_.Go.ChangeSpec) : _root_.Go.OpenSpec := { _root_.Go.OpenSpec.ofChange s with cond := some uptoSmall }

/-- 'multihoplaw23.BorderDisjoint', WHERE WHAT IT READS IS OF BULK AT MOST 1048576: true; the input reads as it did. -/
def borderDisjointUptoRow : OpenClaim := { program := "ytainnefmobfcjaa", sum := "91af263870e70404549349b322dce0694cf4e3c0dfc795551e76523f7b8432fb", func := "multihop/multihoplaw23.BorderDisjoint", spec := "borderDisjoint", inPlace := ["internal/bytealg.Compare", "slices.overlaps[multihop/api.Lease]"], unfollowed := true, recurses := true, apart := false, narrowed := true }
def BorderDisjointUptoSaid : Prop := borderDisjointUptoRow.holds Try.pinned (OpenSpec.upto borderDisjointSpec)

/-- 'multihoplaw23.BorderNewest', WHERE WHAT IT READS IS OF BULK AT MOST 1048576: true; the input reads as it did. -/
def borderNewestUptoRow : OpenClaim := { program := "ytainnefmobfcjaa", sum := "91af263870e70404549349b322dce0694cf4e3c0dfc795551e76523f7b8432fb", func := "multihop/multihoplaw23.BorderNewest", spec := "borderNewest", inPlace := ["slices.overlaps[int]", "internal/bytealg.Compare", "slices.overlaps[multihop/api.Offer]"], unfollowed := true, recurses := true, apart := false, narrowed := true }
def BorderNewestUptoSaid : Prop := borderNewestUptoRow.holds Try.pinned (OpenSpec.upto borderNewestSpec)

/-- 'multihoplaw23.BorderAccepts', WHERE WHAT IT READS IS OF BULK AT MOST 1048576: true; the input reads as it did. -/
def borderAcceptsUptoRow : OpenClaim := { program := "ytainnefmobfcjaa", sum := "91af263870e70404549349b322dce0694cf4e3c0dfc795551e76523f7b8432fb", func := "multihop/multihoplaw23.BorderAccepts", spec := "borderAccepts", inPlace := ["internal/bytealg.Compare", "slices.overlaps[multihop/api.Offer]"], unfollowed := true, recurses := true, apart := false, narrowed := true }
def BorderAcceptsUptoSaid : Prop := borderAcceptsUptoRow.holds Try.pinned (OpenSpec.upto borderAcceptsSpec)

/-- 'multihoplaw23.BorderOffers', WHERE WHAT IT READS IS OF BULK AT MOST 1048576: true; the input reads as it did. -/
def borderOffersUptoRow : OpenClaim := { program := "ytainnefmobfcjaa", sum := "91af263870e70404549349b322dce0694cf4e3c0dfc795551e76523f7b8432fb", func := "multihop/multihoplaw23.BorderOffers", spec := "borderOffers", inPlace := ["internal/bytealg.Compare", "slices.overlaps[multihop/api.Offer]"], unfollowed := true, recurses := true, apart := false, narrowed := true }
def BorderOffersUptoSaid : Prop := borderOffersUptoRow.holds Try.pinned (OpenSpec.upto borderOffersSpec)

/-- 'multihoplaw23.BorderValidates', WHERE WHAT IT READS IS OF BULK AT MOST 1048576: true; the input reads as it did. -/
def borderValidatesUptoRow : OpenClaim := { program := "ytainnefmobfcjaa", sum := "91af263870e70404549349b322dce0694cf4e3c0dfc795551e76523f7b8432fb", func := "multihop/multihoplaw23.BorderValidates", spec := "borderValidates", inPlace := ["internal/bytealg.Compare", "slices.overlaps[multihop/api.Offer]"], unfollowed := true, recurses := true, apart := false, narrowed := true }
def BorderValidatesUptoSaid : Prop := borderValidatesUptoRow.holds Try.pinned (OpenSpec.upto borderValidatesSpec)

end Rows
end Go.Proofs.Ytainnefmobfcjaa
