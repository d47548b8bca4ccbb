/-
  DERIVED. GIVEN WITH THE SEED: THE CARDS: each row of YtmfjddhckblbhaaGreatDoorRows.lean that lists a variable, with what it lists TIED to the program's text (the seventh form; the later family's looks); each row that meets fmt, with fmt's text TOLD by the authors' own Lean function (tested against real Go, not proved from fmt's source: count such statements apart). THE CARD IS WHAT COUNTS. Prove the row's statement (the work); the ties are given (YtmfjddhckblbhaaGreatDoorTie.lean); close each card by the builder's one call (the guide's Derived/Test/ToyasCard.lean, 'card_holds'). Laid BY PROGRAM, IN A SANDBOX (cutbox-door.mjs). By AI agents, Wed Nov 11 2026. No macro, syntax, notation, axiom, sorry.
-/
import Derived.Test.YtmfjddhckblbhaaGreatDoorRows
import GoSem.ClaimSeven
namespace Go.Proofs.YtmfjddhckblbhaaGreatDoor
namespace Rows

/-- THE TIED CARD OF 'exegetelaw05.TokenTells'. -/
def tokenTellsCard : Claim7 := { stood := { row := tokenTellsRow, standIns := [], harness := (true, "40870cec412e135eb34ef42810d6967eeb8f2ab48faff8d8dde44e2f1d21e918"), looks := false }, kinds := [], alts := [], laidByText := true, laidKinds := [.data, .data, .data, .data, .pinned], laidTests := true, laidLooks := .later }
def TokenTellsCardSaid : Prop := Claim7.holds Tryz.pinned (.plain (OpenSpec.ofChange tokenTellsSpec)) tokenTellsCard

/-- THE TIED CARD OF 'exegetelaw05.TokenBack'. -/
def tokenBackCard : Claim7 := { stood := { row := tokenBackRow, standIns := [], harness := (true, "40870cec412e135eb34ef42810d6967eeb8f2ab48faff8d8dde44e2f1d21e918"), looks := false }, kinds := [], alts := [], laidByText := true, laidKinds := [.data, .data, .data, .data, .pinned], laidTests := true, laidLooks := .later }
def TokenBackCardSaid : Prop := Claim7.holds Tryz.pinned (.plain (OpenSpec.ofChange tokenBackSpec)) tokenBackCard

/-- THE TIED CARD OF 'exegetelaw05.TokenBlank'. -/
def tokenBlankCard : Claim7 := { stood := { row := tokenBlankRow, standIns := [], harness := (true, "40870cec412e135eb34ef42810d6967eeb8f2ab48faff8d8dde44e2f1d21e918"), looks := false }, kinds := [], alts := [], laidByText := true, laidKinds := [.data, .data, .data, .data, .pinned], laidTests := true, laidLooks := .later }
def TokenBlankCardSaid : Prop := Claim7.holds Tryz.pinned (.plain (OpenSpec.ofChange tokenBlankSpec)) tokenBlankCard

/-- THE TIED CARD OF 'exegetelaw05.TokenLit'. -/
def tokenLitCard : Claim7 := { stood := { row := tokenLitRow, standIns := [], harness := (true, "40870cec412e135eb34ef42810d6967eeb8f2ab48faff8d8dde44e2f1d21e918"), looks := false }, kinds := [], alts := [], laidByText := true, laidKinds := [.data, .data, .data, .data, .pinned], laidTests := true, laidLooks := .later }
def TokenLitCardSaid : Prop := Claim7.holds Tryz.pinned (.plain (OpenSpec.ofChange tokenLitSpec)) tokenLitCard

/-- THE TIED CARD OF 'exegetelaw05.TokenName'. -/
def tokenNameCard : Claim7 := { stood := { row := tokenNameRow, standIns := [], harness := (true, "40870cec412e135eb34ef42810d6967eeb8f2ab48faff8d8dde44e2f1d21e918"), looks := false }, kinds := [], alts := [], laidByText := true, laidKinds := [.data, .data, .data, .data, .pinned], laidTests := true, laidLooks := .later }
def TokenNameCardSaid : Prop := Claim7.holds Tryz.pinned (.plain (OpenSpec.ofChange tokenNameSpec)) tokenNameCard

/-- THE TIED CARD OF 'exegetelaw05.TokenSet'. -/
def tokenSetCard : Claim7 := { stood := { row := tokenSetRow, standIns := [], harness := (true, "40870cec412e135eb34ef42810d6967eeb8f2ab48faff8d8dde44e2f1d21e918"), looks := false }, kinds := [], alts := [], laidByText := true, laidKinds := [.data, .data, .data, .data, .pinned], laidTests := true, laidLooks := .later }
def TokenSetCardSaid : Prop := Claim7.holds Tryz.pinned (.plain (OpenSpec.ofChange tokenSetSpec)) tokenSetCard

/-- THE SECOND FORM's CARD OF 'exegetelaw05.TokenTells'. -/
def tokenTellsUptoCard : Claim7 := { stood := { row := tokenTellsUptoRow, standIns := [], harness := (true, "40870cec412e135eb34ef42810d6967eeb8f2ab48faff8d8dde44e2f1d21e918"), looks := false }, kinds := [], alts := [], laidByText := true, laidKinds := [.data, .data, .data, .data, .pinned], laidTests := true, laidLooks := .later }
def TokenTellsUptoCardSaid : Prop := Claim7.holds Tryz.pinned (.plain (OpenSpec.upto tokenTellsSpec)) tokenTellsUptoCard

/-- THE SECOND FORM's CARD OF 'exegetelaw05.TokenBack'. -/
def tokenBackUptoCard : Claim7 := { stood := { row := tokenBackUptoRow, standIns := [], harness := (true, "40870cec412e135eb34ef42810d6967eeb8f2ab48faff8d8dde44e2f1d21e918"), looks := false }, kinds := [], alts := [], laidByText := true, laidKinds := [.data, .data, .data, .data, .pinned], laidTests := true, laidLooks := .later }
def TokenBackUptoCardSaid : Prop := Claim7.holds Tryz.pinned (.plain (OpenSpec.upto tokenBackSpec)) tokenBackUptoCard

/-- THE SECOND FORM's CARD OF 'exegetelaw05.TokenBlank'. -/
def tokenBlankUptoCard : Claim7 := { stood := { row := tokenBlankUptoRow, standIns := [], harness := (true, "40870cec412e135eb34ef42810d6967eeb8f2ab48faff8d8dde44e2f1d21e918"), looks := false }, kinds := [], alts := [], laidByText := true, laidKinds := [.data, .data, .data, .data, .pinned], laidTests := true, laidLooks := .later }
def TokenBlankUptoCardSaid : Prop := Claim7.holds Tryz.pinned (.plain (OpenSpec.upto tokenBlankSpec)) tokenBlankUptoCard

/-- THE SECOND FORM's CARD OF 'exegetelaw05.TokenLit'. -/
def tokenLitUptoCard : Claim7 := { stood := { row := tokenLitUptoRow, standIns := [], harness := (true, "40870cec412e135eb34ef42810d6967eeb8f2ab48faff8d8dde44e2f1d21e918"), looks := false }, kinds := [], alts := [], laidByText := true, laidKinds := [.data, .data, .data, .data, .pinned], laidTests := true, laidLooks := .later }
def TokenLitUptoCardSaid : Prop := Claim7.holds Tryz.pinned (.plain (OpenSpec.upto tokenLitSpec)) tokenLitUptoCard

/-- THE SECOND FORM's CARD OF 'exegetelaw05.TokenName'. -/
def tokenNameUptoCard : Claim7 := { stood := { row := tokenNameUptoRow, standIns := [], harness := (true, "40870cec412e135eb34ef42810d6967eeb8f2ab48faff8d8dde44e2f1d21e918"), looks := false }, kinds := [], alts := [], laidByText := true, laidKinds := [.data, .data, .data, .data, .pinned], laidTests := true, laidLooks := .later }
def TokenNameUptoCardSaid : Prop := Claim7.holds Tryz.pinned (.plain (OpenSpec.upto tokenNameSpec)) tokenNameUptoCard

/-- THE SECOND FORM's CARD OF 'exegetelaw05.TokenSet'. -/
def tokenSetUptoCard : Claim7 := { stood := { row := tokenSetUptoRow, standIns := [], harness := (true, "40870cec412e135eb34ef42810d6967eeb8f2ab48faff8d8dde44e2f1d21e918"), looks := false }, kinds := [], alts := [], laidByText := true, laidKinds := [.data, .data, .data, .data, .pinned], laidTests := true, laidLooks := .later }
def TokenSetUptoCardSaid : Prop := Claim7.holds Tryz.pinned (.plain (OpenSpec.upto tokenSetSpec)) tokenSetUptoCard
end Rows
end Go.Proofs.YtmfjddhckblbhaaGreatDoor
