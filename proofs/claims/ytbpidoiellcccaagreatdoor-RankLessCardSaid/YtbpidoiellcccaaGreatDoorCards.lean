/-
  DERIVED. GIVEN WITH THE SEED: THE CARDS: each row of YtbpidoiellcccaaGreatDoorRows.lean that lists a variable, with what it lists TIED to the program's text (the seventh form; the later family's looks); each row that meets fmt, with fmt's text TOLD by the authors' own Lean function (tested against real Go, not proved from fmt's source: count such statements apart). THE CARD IS WHAT COUNTS. Prove the row's statement (the work); the ties are given (YtbpidoiellcccaaGreatDoorTie.lean); close each card by the builder's one call (the guide's Derived/Test/ToyasCard.lean, 'card_holds'). Laid BY PROGRAM, IN A SANDBOX (cutbox-door.mjs). By AI agents, Wed Nov 11 2026. No macro, syntax, notation, axiom, sorry.
-/
import Derived.Test.YtbpidoiellcccaaGreatDoorRows
import GoSem.ClaimSeven
namespace Go.Proofs.YtbpidoiellcccaaGreatDoor
namespace Rows

/-- THE TIED CARD OF 'exegetelaw10.RankTells'. -/
def rankTellsCard : Claim7 := { stood := { row := rankTellsRow, standIns := [], harness := (true, "03f2219c69f867cb40a8cc7af61c5765442beb0f9c6d7a4d3607ced3a1408397"), looks := true }, kinds := [], alts := [], laidByText := true, laidKinds := [.data, .pinned], laidTests := true, laidLooks := .later }
def RankTellsCardSaid : Prop := Claim7.holds Tryz.pinned (.plain (OpenSpec.ofChange rankTellsSpec)) rankTellsCard

/-- THE TIED CARD OF 'exegetelaw10.RankOrder'. -/
def rankOrderCard : Claim7 := { stood := { row := rankOrderRow, standIns := [], harness := (true, "03f2219c69f867cb40a8cc7af61c5765442beb0f9c6d7a4d3607ced3a1408397"), looks := true }, kinds := [], alts := [], laidByText := true, laidKinds := [.data, .pinned], laidTests := true, laidLooks := .later }
def RankOrderCardSaid : Prop := Claim7.holds Tryz.pinned (.plain (OpenSpec.ofChange rankOrderSpec)) rankOrderCard

/-- THE TIED CARD OF 'exegetelaw10.RankFirst'. -/
def rankFirstCard : Claim7 := { stood := { row := rankFirstRow, standIns := [], harness := (true, "03f2219c69f867cb40a8cc7af61c5765442beb0f9c6d7a4d3607ced3a1408397"), looks := true }, kinds := [], alts := [], laidByText := true, laidKinds := [.data, .pinned], laidTests := true, laidLooks := .later }
def RankFirstCardSaid : Prop := Claim7.holds Tryz.pinned (.plain (OpenSpec.ofChange rankFirstSpec)) rankFirstCard

/-- THE TIED CARD OF 'exegetelaw10.RankSelf'. -/
def rankSelfCard : Claim7 := { stood := { row := rankSelfRow, standIns := [], harness := (true, "03f2219c69f867cb40a8cc7af61c5765442beb0f9c6d7a4d3607ced3a1408397"), looks := true }, kinds := [], alts := [], laidByText := true, laidKinds := [.data, .pinned], laidTests := true, laidLooks := .later }
def RankSelfCardSaid : Prop := Claim7.holds Tryz.pinned (.plain (OpenSpec.ofChange rankSelfSpec)) rankSelfCard

/-- THE TIED CARD OF 'exegetelaw10.RankLess'. -/
def rankLessCard : Claim7 := { stood := { row := rankLessRow, standIns := [], harness := (true, "03f2219c69f867cb40a8cc7af61c5765442beb0f9c6d7a4d3607ced3a1408397"), looks := true }, kinds := [], alts := [], laidByText := true, laidKinds := [.data, .pinned], laidTests := true, laidLooks := .later }
def RankLessCardSaid : Prop := Claim7.holds Tryz.pinned (.plain (OpenSpec.ofChange rankLessSpec)) rankLessCard

/-- THE TIED CARD OF 'exegetelaw10.RankFirsts'. -/
def rankFirstsCard : Claim7 := { stood := { row := rankFirstsRow, standIns := [], harness := (true, "03f2219c69f867cb40a8cc7af61c5765442beb0f9c6d7a4d3607ced3a1408397"), looks := true }, kinds := [], alts := [], laidByText := true, laidKinds := [.data, .pinned], laidTests := true, laidLooks := .later }
def RankFirstsCardSaid : Prop := Claim7.holds Tryz.pinned (.plain (OpenSpec.ofChange rankFirstsSpec)) rankFirstsCard

/-- THE SECOND FORM's CARD OF 'exegetelaw10.RankTells'. -/
def rankTellsUptoCard : Claim7 := { stood := { row := rankTellsUptoRow, standIns := [], harness := (true, "03f2219c69f867cb40a8cc7af61c5765442beb0f9c6d7a4d3607ced3a1408397"), looks := true }, kinds := [], alts := [], laidByText := true, laidKinds := [.data, .pinned], laidTests := true, laidLooks := .later }
def RankTellsUptoCardSaid : Prop := Claim7.holds Tryz.pinned (.plain (OpenSpec.upto rankTellsSpec)) rankTellsUptoCard

/-- THE SECOND FORM's CARD OF 'exegetelaw10.RankOrder'. -/
def rankOrderUptoCard : Claim7 := { stood := { row := rankOrderUptoRow, standIns := [], harness := (true, "03f2219c69f867cb40a8cc7af61c5765442beb0f9c6d7a4d3607ced3a1408397"), looks := true }, kinds := [], alts := [], laidByText := true, laidKinds := [.data, .pinned], laidTests := true, laidLooks := .later }
def RankOrderUptoCardSaid : Prop := Claim7.holds Tryz.pinned (.plain (OpenSpec.upto rankOrderSpec)) rankOrderUptoCard

/-- THE SECOND FORM's CARD OF 'exegetelaw10.RankFirst'. -/
def rankFirstUptoCard : Claim7 := { stood := { row := rankFirstUptoRow, standIns := [], harness := (true, "03f2219c69f867cb40a8cc7af61c5765442beb0f9c6d7a4d3607ced3a1408397"), looks := true }, kinds := [], alts := [], laidByText := true, laidKinds := [.data, .pinned], laidTests := true, laidLooks := .later }
def RankFirstUptoCardSaid : Prop := Claim7.holds Tryz.pinned (.plain (OpenSpec.upto rankFirstSpec)) rankFirstUptoCard

/-- THE SECOND FORM's CARD OF 'exegetelaw10.RankSelf'. -/
def rankSelfUptoCard : Claim7 := { stood := { row := rankSelfUptoRow, standIns := [], harness := (true, "03f2219c69f867cb40a8cc7af61c5765442beb0f9c6d7a4d3607ced3a1408397"), looks := true }, kinds := [], alts := [], laidByText := true, laidKinds := [.data, .pinned], laidTests := true, laidLooks := .later }
def RankSelfUptoCardSaid : Prop := Claim7.holds Tryz.pinned (.plain (OpenSpec.upto rankSelfSpec)) rankSelfUptoCard

/-- THE SECOND FORM's CARD OF 'exegetelaw10.RankLess'. -/
def rankLessUptoCard : Claim7 := { stood := { row := rankLessUptoRow, standIns := [], harness := (true, "03f2219c69f867cb40a8cc7af61c5765442beb0f9c6d7a4d3607ced3a1408397"), looks := true }, kinds := [], alts := [], laidByText := true, laidKinds := [.data, .pinned], laidTests := true, laidLooks := .later }
def RankLessUptoCardSaid : Prop := Claim7.holds Tryz.pinned (.plain (OpenSpec.upto rankLessSpec)) rankLessUptoCard

/-- THE SECOND FORM's CARD OF 'exegetelaw10.RankFirsts'. -/
def rankFirstsUptoCard : Claim7 := { stood := { row := rankFirstsUptoRow, standIns := [], harness := (true, "03f2219c69f867cb40a8cc7af61c5765442beb0f9c6d7a4d3607ced3a1408397"), looks := true }, kinds := [], alts := [], laidByText := true, laidKinds := [.data, .pinned], laidTests := true, laidLooks := .later }
def RankFirstsUptoCardSaid : Prop := Claim7.holds Tryz.pinned (.plain (OpenSpec.upto rankFirstsSpec)) rankFirstsUptoCard
end Rows
end Go.Proofs.YtbpidoiellcccaaGreatDoor
