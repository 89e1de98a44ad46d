/-
  DERIVED. GIVEN WITH THE SEED: THE CARDS: each row of YtgeafeohfiejcaaGreatDoorRows.lean that lists a variable, with what it lists TIED to the program's text (the seventh form; the later family's looks); each row that meets fmt, with fmt's text TOLD by the authors' own Lean function (tested against real Go, not proved from fmt's source: count such statements apart). THE CARD IS WHAT COUNTS. Prove the row's statement (the work); the ties are given (YtgeafeohfiejcaaGreatDoorTie.lean); close each card by the builder's one call (the guide's Derived/Test/ToyasCard.lean, 'card_holds'). Laid BY PROGRAM, IN A SANDBOX (cutbox-door.mjs). By AI agents, Wed Nov 11 2026. No macro, syntax, notation, axiom, sorry.
-/
import Derived.Test.YtgeafeohfiejcaaGreatDoorRows
import GoSem.ClaimSeven
namespace Go.Proofs.YtgeafeohfiejcaaGreatDoor
namespace Rows

/-- THE TIED CARD OF 'stanchionlaw13.EngineApart'. -/
def engineApartCard : Claim7 := { stood := { row := engineApartRow, standIns := [], harness := (true, "51667b85680189edde9a9f823259c9ca54447a1139d2e9f386d3e274a90afc82"), looks := true }, kinds := [], alts := [], laidByText := true, laidKinds := [.handle], laidTests := true, laidLooks := .later }
def EngineApartCardSaid : Prop := Claim7.holds Tryz.pinned (.plain (OpenSpec.ofChange engineApartSpec)) engineApartCard

/-- THE TIED CARD OF 'stanchionlaw13.EngineReads'. -/
def engineReadsCard : Claim7 := { stood := { row := engineReadsRow, standIns := [], harness := (true, "51667b85680189edde9a9f823259c9ca54447a1139d2e9f386d3e274a90afc82"), looks := true }, kinds := [], alts := [], laidByText := true, laidKinds := [.handle], laidTests := true, laidLooks := .later }
def EngineReadsCardSaid : Prop := Claim7.holds Tryz.pinned (.plain (OpenSpec.ofChange engineReadsSpec)) engineReadsCard

/-- THE TIED CARD OF 'stanchionlaw13.EngineEnds'. -/
def engineEndsCard : Claim7 := { stood := { row := engineEndsRow, standIns := [], harness := (true, "51667b85680189edde9a9f823259c9ca54447a1139d2e9f386d3e274a90afc82"), looks := true }, kinds := [], alts := [], laidByText := true, laidKinds := [.handle], laidTests := true, laidLooks := .later }
def EngineEndsCardSaid : Prop := Claim7.holds Tryz.pinned (.plain (OpenSpec.ofChange engineEndsSpec)) engineEndsCard

/-- THE TIED CARD OF 'stanchionlaw13.EngineLasts'. -/
def engineLastsCard : Claim7 := { stood := { row := engineLastsRow, standIns := [], harness := (true, "51667b85680189edde9a9f823259c9ca54447a1139d2e9f386d3e274a90afc82"), looks := true }, kinds := [], alts := [], laidByText := true, laidKinds := [.handle], laidTests := true, laidLooks := .later }
def EngineLastsCardSaid : Prop := Claim7.holds Tryz.pinned (.plain (OpenSpec.ofChange engineLastsSpec)) engineLastsCard

/-- THE TIED CARD OF 'stanchionlaw13.EngineOwn'. -/
def engineOwnCard : Claim7 := { stood := { row := engineOwnRow, standIns := [], harness := (true, "51667b85680189edde9a9f823259c9ca54447a1139d2e9f386d3e274a90afc82"), looks := true }, kinds := [], alts := [], laidByText := true, laidKinds := [.handle], laidTests := true, laidLooks := .later }
def EngineOwnCardSaid : Prop := Claim7.holds Tryz.pinned (.plain (OpenSpec.ofChange engineOwnSpec)) engineOwnCard

/-- THE TIED CARD OF 'stanchionlaw13.EngineTokens'. -/
def engineTokensCard : Claim7 := { stood := { row := engineTokensRow, standIns := [], harness := (true, "51667b85680189edde9a9f823259c9ca54447a1139d2e9f386d3e274a90afc82"), looks := true }, kinds := [], alts := [], laidByText := true, laidKinds := [.handle], laidTests := true, laidLooks := .later }
def EngineTokensCardSaid : Prop := Claim7.holds Tryz.pinned (.plain (OpenSpec.ofChange engineTokensSpec)) engineTokensCard

/-- THE TIED CARD OF 'stanchionlaw13.EngineAsked'. -/
def engineAskedCard : Claim7 := { stood := { row := engineAskedRow, standIns := [], harness := (true, "51667b85680189edde9a9f823259c9ca54447a1139d2e9f386d3e274a90afc82"), looks := true }, kinds := [], alts := [], laidByText := true, laidKinds := [.handle], laidTests := true, laidLooks := .later }
def EngineAskedCardSaid : Prop := Claim7.holds Tryz.pinned (.plain (OpenSpec.ofChange engineAskedSpec)) engineAskedCard

/-- THE SECOND FORM's CARD OF 'stanchionlaw13.EngineApart'. -/
def engineApartUptoCard : Claim7 := { stood := { row := engineApartUptoRow, standIns := [], harness := (true, "51667b85680189edde9a9f823259c9ca54447a1139d2e9f386d3e274a90afc82"), looks := true }, kinds := [], alts := [], laidByText := true, laidKinds := [.handle], laidTests := true, laidLooks := .later }
def EngineApartUptoCardSaid : Prop := Claim7.holds Tryz.pinned (.plain (OpenSpec.upto engineApartSpec)) engineApartUptoCard

/-- THE SECOND FORM's CARD OF 'stanchionlaw13.EngineReads'. -/
def engineReadsUptoCard : Claim7 := { stood := { row := engineReadsUptoRow, standIns := [], harness := (true, "51667b85680189edde9a9f823259c9ca54447a1139d2e9f386d3e274a90afc82"), looks := true }, kinds := [], alts := [], laidByText := true, laidKinds := [.handle], laidTests := true, laidLooks := .later }
def EngineReadsUptoCardSaid : Prop := Claim7.holds Tryz.pinned (.plain (OpenSpec.upto engineReadsSpec)) engineReadsUptoCard

/-- THE SECOND FORM's CARD OF 'stanchionlaw13.EngineEnds'. -/
def engineEndsUptoCard : Claim7 := { stood := { row := engineEndsUptoRow, standIns := [], harness := (true, "51667b85680189edde9a9f823259c9ca54447a1139d2e9f386d3e274a90afc82"), looks := true }, kinds := [], alts := [], laidByText := true, laidKinds := [.handle], laidTests := true, laidLooks := .later }
def EngineEndsUptoCardSaid : Prop := Claim7.holds Tryz.pinned (.plain (OpenSpec.upto engineEndsSpec)) engineEndsUptoCard

/-- THE SECOND FORM's CARD OF 'stanchionlaw13.EngineLasts'. -/
def engineLastsUptoCard : Claim7 := { stood := { row := engineLastsUptoRow, standIns := [], harness := (true, "51667b85680189edde9a9f823259c9ca54447a1139d2e9f386d3e274a90afc82"), looks := true }, kinds := [], alts := [], laidByText := true, laidKinds := [.handle], laidTests := true, laidLooks := .later }
def EngineLastsUptoCardSaid : Prop := Claim7.holds Tryz.pinned (.plain (OpenSpec.upto engineLastsSpec)) engineLastsUptoCard

/-- THE SECOND FORM's CARD OF 'stanchionlaw13.EngineOwn'. -/
def engineOwnUptoCard : Claim7 := { stood := { row := engineOwnUptoRow, standIns := [], harness := (true, "51667b85680189edde9a9f823259c9ca54447a1139d2e9f386d3e274a90afc82"), looks := true }, kinds := [], alts := [], laidByText := true, laidKinds := [.handle], laidTests := true, laidLooks := .later }
def EngineOwnUptoCardSaid : Prop := Claim7.holds Tryz.pinned (.plain (OpenSpec.upto engineOwnSpec)) engineOwnUptoCard

/-- THE SECOND FORM's CARD OF 'stanchionlaw13.EngineTokens'. -/
def engineTokensUptoCard : Claim7 := { stood := { row := engineTokensUptoRow, standIns := [], harness := (true, "51667b85680189edde9a9f823259c9ca54447a1139d2e9f386d3e274a90afc82"), looks := true }, kinds := [], alts := [], laidByText := true, laidKinds := [.handle], laidTests := true, laidLooks := .later }
def EngineTokensUptoCardSaid : Prop := Claim7.holds Tryz.pinned (.plain (OpenSpec.upto engineTokensSpec)) engineTokensUptoCard

/-- THE SECOND FORM's CARD OF 'stanchionlaw13.EngineAsked'. -/
def engineAskedUptoCard : Claim7 := { stood := { row := engineAskedUptoRow, standIns := [], harness := (true, "51667b85680189edde9a9f823259c9ca54447a1139d2e9f386d3e274a90afc82"), looks := true }, kinds := [], alts := [], laidByText := true, laidKinds := [.handle], laidTests := true, laidLooks := .later }
def EngineAskedUptoCardSaid : Prop := Claim7.holds Tryz.pinned (.plain (OpenSpec.upto engineAskedSpec)) engineAskedUptoCard
end Rows
end Go.Proofs.YtgeafeohfiejcaaGreatDoor
