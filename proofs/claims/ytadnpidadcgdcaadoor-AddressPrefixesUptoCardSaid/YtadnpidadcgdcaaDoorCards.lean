/-
  DERIVED. GIVEN WITH THE SEED: THE CARDS: each row of YtadnpidadcgdcaaDoorRows.lean that lists a variable, with what it lists TIED to the program's text (the seventh form; the later family's looks); each row that meets fmt, with fmt's text TOLD by the authors' own Lean function (tested against real Go, not proved from fmt's source: count such statements apart). THE CARD IS WHAT COUNTS. Prove the row's statement (the work); the ties are given (YtadnpidadcgdcaaDoorTie.lean); close each card by the builder's one call (the guide's Derived/Test/ToyasCard.lean, 'card_holds'). Laid BY PROGRAM, IN A SANDBOX (cutbox-door.mjs). By AI agents, Wed Nov 11 2026. No macro, syntax, notation, axiom, sorry.
-/
import Derived.Test.YtadnpidadcgdcaaDoorRows
import GoSem.ClaimSeven
namespace Go.Proofs.YtadnpidadcgdcaaDoor
namespace Rows

/-- THE TIED CARD OF 'multihoplaw04.AddressTexts'. -/
def addressTextsCard : Claim7 := { stood := { row := addressTextsRow, standIns := [], harness := (true, "29fbfdb38c013a1601b17df8c651057f0dcd15272cd0a41b9f4bfac9a61d9be7"), looks := false }, kinds := [], alts := [], laidByText := true, laidKinds := [.data, .data, .data, .data, .pinned], laidTests := true, laidLooks := .later }
def AddressTextsCardSaid : Prop := Claim7.holds Tryd.pinned (.plain (OpenSpec.ofChange addressTextsSpec)) addressTextsCard

/-- THE TIED CARD OF 'multihoplaw04.AddressMasks'. -/
def addressMasksCard : Claim7 := { stood := { row := addressMasksRow, standIns := [], harness := (true, "29fbfdb38c013a1601b17df8c651057f0dcd15272cd0a41b9f4bfac9a61d9be7"), looks := false }, kinds := [], alts := [], laidByText := true, laidKinds := [.data, .data, .data, .data, .pinned], laidTests := true, laidLooks := .later }
def AddressMasksCardSaid : Prop := Claim7.holds Tryd.pinned (.plain (OpenSpec.ofChange addressMasksSpec)) addressMasksCard

/-- THE TIED CARD OF 'multihoplaw04.AddressOrder'. -/
def addressOrderCard : Claim7 := { stood := { row := addressOrderRow, standIns := [], harness := (true, "29fbfdb38c013a1601b17df8c651057f0dcd15272cd0a41b9f4bfac9a61d9be7"), looks := false }, kinds := [], alts := [], laidByText := true, laidKinds := [.data, .data, .data, .data, .pinned], laidTests := true, laidLooks := .later }
def AddressOrderCardSaid : Prop := Claim7.holds Tryd.pinned (.plain (OpenSpec.ofChange addressOrderSpec)) addressOrderCard

/-- THE TIED CARD OF 'multihoplaw04.AddressHalves'. -/
def addressHalvesCard : Claim7 := { stood := { row := addressHalvesRow, standIns := [], harness := (true, "29fbfdb38c013a1601b17df8c651057f0dcd15272cd0a41b9f4bfac9a61d9be7"), looks := false }, kinds := [], alts := [], laidByText := true, laidKinds := [.data, .data, .data, .data, .pinned], laidTests := true, laidLooks := .later }
def AddressHalvesCardSaid : Prop := Claim7.holds Tryd.pinned (.plain (OpenSpec.ofChange addressHalvesSpec)) addressHalvesCard

/-- THE TIED CARD OF 'multihoplaw04.AddressBack'. -/
def addressBackCard : Claim7 := { stood := { row := addressBackRow, standIns := [], harness := (true, "29fbfdb38c013a1601b17df8c651057f0dcd15272cd0a41b9f4bfac9a61d9be7"), looks := false }, kinds := [], alts := [], laidByText := true, laidKinds := [.data, .data, .data, .data, .pinned], laidTests := true, laidLooks := .later }
def AddressBackCardSaid : Prop := Claim7.holds Tryd.pinned (.plain (OpenSpec.ofChange addressBackSpec)) addressBackCard

/-- THE TIED CARD OF 'multihoplaw04.AddressIdentifies'. -/
def addressIdentifiesCard : Claim7 := { stood := { row := addressIdentifiesRow, standIns := [], harness := (true, "29fbfdb38c013a1601b17df8c651057f0dcd15272cd0a41b9f4bfac9a61d9be7"), looks := false }, kinds := [], alts := [], laidByText := true, laidKinds := [.data, .data, .data, .data, .pinned], laidTests := true, laidLooks := .later }
def AddressIdentifiesCardSaid : Prop := Claim7.holds Tryd.pinned (.plain (OpenSpec.ofChange addressIdentifiesSpec)) addressIdentifiesCard

/-- THE TIED CARD OF 'multihoplaw04.AddressPrefixes'. -/
def addressPrefixesCard : Claim7 := { stood := { row := addressPrefixesRow, standIns := [], harness := (true, "29fbfdb38c013a1601b17df8c651057f0dcd15272cd0a41b9f4bfac9a61d9be7"), looks := false }, kinds := [], alts := [], laidByText := true, laidKinds := [.data, .data, .data, .data, .pinned], laidTests := true, laidLooks := .later }
def AddressPrefixesCardSaid : Prop := Claim7.holds Tryd.pinned (.plain (OpenSpec.ofChange addressPrefixesSpec)) addressPrefixesCard

/-- THE TIED CARD OF 'multihoplaw04.AddressLinks'. -/
def addressLinksCard : Claim7 := { stood := { row := addressLinksRow, standIns := [], harness := (true, "29fbfdb38c013a1601b17df8c651057f0dcd15272cd0a41b9f4bfac9a61d9be7"), looks := false }, kinds := [], alts := [], laidByText := true, laidKinds := [.data, .data, .data, .data, .pinned], laidTests := true, laidLooks := .later }
def AddressLinksCardSaid : Prop := Claim7.holds Tryd.pinned (.plain (OpenSpec.ofChange addressLinksSpec)) addressLinksCard

/-- THE SECOND FORM's CARD OF 'multihoplaw04.AddressTexts'. -/
def addressTextsUptoCard : Claim7 := { stood := { row := addressTextsUptoRow, standIns := [], harness := (true, "29fbfdb38c013a1601b17df8c651057f0dcd15272cd0a41b9f4bfac9a61d9be7"), looks := false }, kinds := [], alts := [], laidByText := true, laidKinds := [.data, .data, .data, .data, .pinned], laidTests := true, laidLooks := .later }
def AddressTextsUptoCardSaid : Prop := Claim7.holds Tryd.pinned (.plain (OpenSpec.upto addressTextsSpec)) addressTextsUptoCard

/-- THE SECOND FORM's CARD OF 'multihoplaw04.AddressMasks'. -/
def addressMasksUptoCard : Claim7 := { stood := { row := addressMasksUptoRow, standIns := [], harness := (true, "29fbfdb38c013a1601b17df8c651057f0dcd15272cd0a41b9f4bfac9a61d9be7"), looks := false }, kinds := [], alts := [], laidByText := true, laidKinds := [.data, .data, .data, .data, .pinned], laidTests := true, laidLooks := .later }
def AddressMasksUptoCardSaid : Prop := Claim7.holds Tryd.pinned (.plain (OpenSpec.upto addressMasksSpec)) addressMasksUptoCard

/-- THE SECOND FORM's CARD OF 'multihoplaw04.AddressOrder'. -/
def addressOrderUptoCard : Claim7 := { stood := { row := addressOrderUptoRow, standIns := [], harness := (true, "29fbfdb38c013a1601b17df8c651057f0dcd15272cd0a41b9f4bfac9a61d9be7"), looks := false }, kinds := [], alts := [], laidByText := true, laidKinds := [.data, .data, .data, .data, .pinned], laidTests := true, laidLooks := .later }
def AddressOrderUptoCardSaid : Prop := Claim7.holds Tryd.pinned (.plain (OpenSpec.upto addressOrderSpec)) addressOrderUptoCard

/-- THE SECOND FORM's CARD OF 'multihoplaw04.AddressHalves'. -/
def addressHalvesUptoCard : Claim7 := { stood := { row := addressHalvesUptoRow, standIns := [], harness := (true, "29fbfdb38c013a1601b17df8c651057f0dcd15272cd0a41b9f4bfac9a61d9be7"), looks := false }, kinds := [], alts := [], laidByText := true, laidKinds := [.data, .data, .data, .data, .pinned], laidTests := true, laidLooks := .later }
def AddressHalvesUptoCardSaid : Prop := Claim7.holds Tryd.pinned (.plain (OpenSpec.upto addressHalvesSpec)) addressHalvesUptoCard

/-- THE SECOND FORM's CARD OF 'multihoplaw04.AddressBack'. -/
def addressBackUptoCard : Claim7 := { stood := { row := addressBackUptoRow, standIns := [], harness := (true, "29fbfdb38c013a1601b17df8c651057f0dcd15272cd0a41b9f4bfac9a61d9be7"), looks := false }, kinds := [], alts := [], laidByText := true, laidKinds := [.data, .data, .data, .data, .pinned], laidTests := true, laidLooks := .later }
def AddressBackUptoCardSaid : Prop := Claim7.holds Tryd.pinned (.plain (OpenSpec.upto addressBackSpec)) addressBackUptoCard

/-- THE SECOND FORM's CARD OF 'multihoplaw04.AddressIdentifies'. -/
def addressIdentifiesUptoCard : Claim7 := { stood := { row := addressIdentifiesUptoRow, standIns := [], harness := (true, "29fbfdb38c013a1601b17df8c651057f0dcd15272cd0a41b9f4bfac9a61d9be7"), looks := false }, kinds := [], alts := [], laidByText := true, laidKinds := [.data, .data, .data, .data, .pinned], laidTests := true, laidLooks := .later }
def AddressIdentifiesUptoCardSaid : Prop := Claim7.holds Tryd.pinned (.plain (OpenSpec.upto addressIdentifiesSpec)) addressIdentifiesUptoCard

/-- THE SECOND FORM's CARD OF 'multihoplaw04.AddressPrefixes'. -/
def addressPrefixesUptoCard : Claim7 := { stood := { row := addressPrefixesUptoRow, standIns := [], harness := (true, "29fbfdb38c013a1601b17df8c651057f0dcd15272cd0a41b9f4bfac9a61d9be7"), looks := false }, kinds := [], alts := [], laidByText := true, laidKinds := [.data, .data, .data, .data, .pinned], laidTests := true, laidLooks := .later }
def AddressPrefixesUptoCardSaid : Prop := Claim7.holds Tryd.pinned (.plain (OpenSpec.upto addressPrefixesSpec)) addressPrefixesUptoCard

/-- THE SECOND FORM's CARD OF 'multihoplaw04.AddressLinks'. -/
def addressLinksUptoCard : Claim7 := { stood := { row := addressLinksUptoRow, standIns := [], harness := (true, "29fbfdb38c013a1601b17df8c651057f0dcd15272cd0a41b9f4bfac9a61d9be7"), looks := false }, kinds := [], alts := [], laidByText := true, laidKinds := [.data, .data, .data, .data, .pinned], laidTests := true, laidLooks := .later }
def AddressLinksUptoCardSaid : Prop := Claim7.holds Tryd.pinned (.plain (OpenSpec.upto addressLinksSpec)) addressLinksUptoCard
end Rows
end Go.Proofs.YtadnpidadcgdcaaDoor
