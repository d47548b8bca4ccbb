/-
  DERIVED. GIVEN WITH THE SEED: THE CARDS: each row of YtacihjabkiedcaaGreatDoorRows.lean that lists a variable, with what it lists TIED to the program's text (the seventh form; the later family's looks); each row that meets fmt, with fmt's text TOLD by the authors' own Lean function (tested against real Go, not proved from fmt's source: count such statements apart). THE CARD IS WHAT COUNTS. Prove the row's statement (the work); the ties are given (YtacihjabkiedcaaGreatDoorTie.lean); close each card by the builder's one call (the guide's Derived/Test/ToyasCard.lean, 'card_holds'). Laid BY PROGRAM, IN A SANDBOX (cutbox-door.mjs). By AI agents, Wed Nov 11 2026. No macro, syntax, notation, axiom, sorry.
-/
import Derived.Test.YtacihjabkiedcaaGreatDoorRows
import GoSem.ClaimSeven
namespace Go.Proofs.YtacihjabkiedcaaGreatDoor
namespace Rows

/-- THE TIED CARD OF 'exegetelaw11.ReachTells'. -/
def reachTellsCard : Claim7 := { stood := { row := reachTellsRow, standIns := [], harness := (true, "db7c3aaa92c0d27e8fdc83536e01cd5ed08ee090bdea2f5c41c2c95decb5f8cf"), looks := true }, kinds := [], alts := [], laidByText := true, laidKinds := [.data, .pinned], laidTests := true, laidLooks := .later }
def ReachTellsCardSaid : Prop := Claim7.holds Tryz.pinned (.plain (OpenSpec.ofChange reachTellsSpec)) reachTellsCard

/-- THE TIED CARD OF 'exegetelaw11.ReachLost'. -/
def reachLostCard : Claim7 := { stood := { row := reachLostRow, standIns := [], harness := (true, "db7c3aaa92c0d27e8fdc83536e01cd5ed08ee090bdea2f5c41c2c95decb5f8cf"), looks := true }, kinds := [], alts := [], laidByText := true, laidKinds := [.data, .pinned], laidTests := true, laidLooks := .later }
def ReachLostCardSaid : Prop := Claim7.holds Tryz.pinned (.plain (OpenSpec.ofChange reachLostSpec)) reachLostCard

/-- THE TIED CARD OF 'exegetelaw11.ReachSelf'. -/
def reachSelfCard : Claim7 := { stood := { row := reachSelfRow, standIns := [], harness := (true, "db7c3aaa92c0d27e8fdc83536e01cd5ed08ee090bdea2f5c41c2c95decb5f8cf"), looks := true }, kinds := [], alts := [], laidByText := true, laidKinds := [.data, .pinned], laidTests := true, laidLooks := .later }
def ReachSelfCardSaid : Prop := Claim7.holds Tryz.pinned (.plain (OpenSpec.ofChange reachSelfSpec)) reachSelfCard

/-- THE TIED CARD OF 'exegetelaw11.ReachMakes'. -/
def reachMakesCard : Claim7 := { stood := { row := reachMakesRow, standIns := [], harness := (true, "db7c3aaa92c0d27e8fdc83536e01cd5ed08ee090bdea2f5c41c2c95decb5f8cf"), looks := true }, kinds := [], alts := [], laidByText := true, laidKinds := [.data, .pinned], laidTests := true, laidLooks := .later }
def ReachMakesCardSaid : Prop := Claim7.holds Tryz.pinned (.plain (OpenSpec.ofChange reachMakesSpec)) reachMakesCard

/-- THE TIED CARD OF 'exegetelaw09.NullTells'. -/
def nullTellsCard : Claim7 := { stood := { row := nullTellsRow, standIns := [], harness := (true, "db7c3aaa92c0d27e8fdc83536e01cd5ed08ee090bdea2f5c41c2c95decb5f8cf"), looks := true }, kinds := [], alts := [], laidByText := true, laidKinds := [.data, .pinned], laidTests := true, laidLooks := .later }
def NullTellsCardSaid : Prop := Claim7.holds Tryz.pinned (.plain (OpenSpec.ofChange nullTellsSpec)) nullTellsCard

/-- THE TIED CARD OF 'exegetelaw09.NullLeast'. -/
def nullLeastCard : Claim7 := { stood := { row := nullLeastRow, standIns := [], harness := (true, "db7c3aaa92c0d27e8fdc83536e01cd5ed08ee090bdea2f5c41c2c95decb5f8cf"), looks := true }, kinds := [], alts := [], laidByText := true, laidKinds := [.data, .pinned], laidTests := true, laidLooks := .later }
def NullLeastCardSaid : Prop := Claim7.holds Tryz.pinned (.plain (OpenSpec.ofChange nullLeastSpec)) nullLeastCard

/-- THE TIED CARD OF 'exegetelaw09.NullMore'. -/
def nullMoreCard : Claim7 := { stood := { row := nullMoreRow, standIns := [], harness := (true, "db7c3aaa92c0d27e8fdc83536e01cd5ed08ee090bdea2f5c41c2c95decb5f8cf"), looks := true }, kinds := [], alts := [], laidByText := true, laidKinds := [.data, .pinned], laidTests := true, laidLooks := .later }
def NullMoreCardSaid : Prop := Claim7.holds Tryz.pinned (.plain (OpenSpec.ofChange nullMoreSpec)) nullMoreCard

/-- THE TIED CARD OF 'exegetelaw09.NullLefts'. -/
def nullLeftsCard : Claim7 := { stood := { row := nullLeftsRow, standIns := [], harness := (true, "db7c3aaa92c0d27e8fdc83536e01cd5ed08ee090bdea2f5c41c2c95decb5f8cf"), looks := true }, kinds := [], alts := [], laidByText := true, laidKinds := [.data, .pinned], laidTests := true, laidLooks := .later }
def NullLeftsCardSaid : Prop := Claim7.holds Tryz.pinned (.plain (OpenSpec.ofChange nullLeftsSpec)) nullLeftsCard

/-- THE TIED CARD OF 'exegetelaw09.NullJoin'. -/
def nullJoinCard : Claim7 := { stood := { row := nullJoinRow, standIns := [], harness := (true, "db7c3aaa92c0d27e8fdc83536e01cd5ed08ee090bdea2f5c41c2c95decb5f8cf"), looks := true }, kinds := [], alts := [], laidByText := true, laidKinds := [.data, .pinned], laidTests := true, laidLooks := .later }
def NullJoinCardSaid : Prop := Claim7.holds Tryz.pinned (.plain (OpenSpec.ofChange nullJoinSpec)) nullJoinCard

/-- THE TIED CARD OF 'exegetelaw11.ReachWithin'. -/
def reachWithinCard : Claim7 := { stood := { row := reachWithinRow, standIns := [], harness := (true, "db7c3aaa92c0d27e8fdc83536e01cd5ed08ee090bdea2f5c41c2c95decb5f8cf"), looks := true }, kinds := [], alts := [], laidByText := true, laidKinds := [.data, .pinned], laidTests := true, laidLooks := .later }
def ReachWithinCardSaid : Prop := Claim7.holds Tryz.pinned (.plain (OpenSpec.ofChange reachWithinSpec)) reachWithinCard

/-- THE SECOND FORM's CARD OF 'exegetelaw11.ReachTells'. -/
def reachTellsUptoCard : Claim7 := { stood := { row := reachTellsUptoRow, standIns := [], harness := (true, "db7c3aaa92c0d27e8fdc83536e01cd5ed08ee090bdea2f5c41c2c95decb5f8cf"), looks := true }, kinds := [], alts := [], laidByText := true, laidKinds := [.data, .pinned], laidTests := true, laidLooks := .later }
def ReachTellsUptoCardSaid : Prop := Claim7.holds Tryz.pinned (.plain (OpenSpec.upto reachTellsSpec)) reachTellsUptoCard

/-- THE SECOND FORM's CARD OF 'exegetelaw11.ReachLost'. -/
def reachLostUptoCard : Claim7 := { stood := { row := reachLostUptoRow, standIns := [], harness := (true, "db7c3aaa92c0d27e8fdc83536e01cd5ed08ee090bdea2f5c41c2c95decb5f8cf"), looks := true }, kinds := [], alts := [], laidByText := true, laidKinds := [.data, .pinned], laidTests := true, laidLooks := .later }
def ReachLostUptoCardSaid : Prop := Claim7.holds Tryz.pinned (.plain (OpenSpec.upto reachLostSpec)) reachLostUptoCard

/-- THE SECOND FORM's CARD OF 'exegetelaw11.ReachSelf'. -/
def reachSelfUptoCard : Claim7 := { stood := { row := reachSelfUptoRow, standIns := [], harness := (true, "db7c3aaa92c0d27e8fdc83536e01cd5ed08ee090bdea2f5c41c2c95decb5f8cf"), looks := true }, kinds := [], alts := [], laidByText := true, laidKinds := [.data, .pinned], laidTests := true, laidLooks := .later }
def ReachSelfUptoCardSaid : Prop := Claim7.holds Tryz.pinned (.plain (OpenSpec.upto reachSelfSpec)) reachSelfUptoCard

/-- THE SECOND FORM's CARD OF 'exegetelaw11.ReachMakes'. -/
def reachMakesUptoCard : Claim7 := { stood := { row := reachMakesUptoRow, standIns := [], harness := (true, "db7c3aaa92c0d27e8fdc83536e01cd5ed08ee090bdea2f5c41c2c95decb5f8cf"), looks := true }, kinds := [], alts := [], laidByText := true, laidKinds := [.data, .pinned], laidTests := true, laidLooks := .later }
def ReachMakesUptoCardSaid : Prop := Claim7.holds Tryz.pinned (.plain (OpenSpec.upto reachMakesSpec)) reachMakesUptoCard

/-- THE SECOND FORM's CARD OF 'exegetelaw09.NullTells'. -/
def nullTellsUptoCard : Claim7 := { stood := { row := nullTellsUptoRow, standIns := [], harness := (true, "db7c3aaa92c0d27e8fdc83536e01cd5ed08ee090bdea2f5c41c2c95decb5f8cf"), looks := true }, kinds := [], alts := [], laidByText := true, laidKinds := [.data, .pinned], laidTests := true, laidLooks := .later }
def NullTellsUptoCardSaid : Prop := Claim7.holds Tryz.pinned (.plain (OpenSpec.upto nullTellsSpec)) nullTellsUptoCard

/-- THE SECOND FORM's CARD OF 'exegetelaw09.NullLeast'. -/
def nullLeastUptoCard : Claim7 := { stood := { row := nullLeastUptoRow, standIns := [], harness := (true, "db7c3aaa92c0d27e8fdc83536e01cd5ed08ee090bdea2f5c41c2c95decb5f8cf"), looks := true }, kinds := [], alts := [], laidByText := true, laidKinds := [.data, .pinned], laidTests := true, laidLooks := .later }
def NullLeastUptoCardSaid : Prop := Claim7.holds Tryz.pinned (.plain (OpenSpec.upto nullLeastSpec)) nullLeastUptoCard

/-- THE SECOND FORM's CARD OF 'exegetelaw09.NullMore'. -/
def nullMoreUptoCard : Claim7 := { stood := { row := nullMoreUptoRow, standIns := [], harness := (true, "db7c3aaa92c0d27e8fdc83536e01cd5ed08ee090bdea2f5c41c2c95decb5f8cf"), looks := true }, kinds := [], alts := [], laidByText := true, laidKinds := [.data, .pinned], laidTests := true, laidLooks := .later }
def NullMoreUptoCardSaid : Prop := Claim7.holds Tryz.pinned (.plain (OpenSpec.upto nullMoreSpec)) nullMoreUptoCard

/-- THE SECOND FORM's CARD OF 'exegetelaw09.NullLefts'. -/
def nullLeftsUptoCard : Claim7 := { stood := { row := nullLeftsUptoRow, standIns := [], harness := (true, "db7c3aaa92c0d27e8fdc83536e01cd5ed08ee090bdea2f5c41c2c95decb5f8cf"), looks := true }, kinds := [], alts := [], laidByText := true, laidKinds := [.data, .pinned], laidTests := true, laidLooks := .later }
def NullLeftsUptoCardSaid : Prop := Claim7.holds Tryz.pinned (.plain (OpenSpec.upto nullLeftsSpec)) nullLeftsUptoCard

/-- THE SECOND FORM's CARD OF 'exegetelaw09.NullJoin'. -/
def nullJoinUptoCard : Claim7 := { stood := { row := nullJoinUptoRow, standIns := [], harness := (true, "db7c3aaa92c0d27e8fdc83536e01cd5ed08ee090bdea2f5c41c2c95decb5f8cf"), looks := true }, kinds := [], alts := [], laidByText := true, laidKinds := [.data, .pinned], laidTests := true, laidLooks := .later }
def NullJoinUptoCardSaid : Prop := Claim7.holds Tryz.pinned (.plain (OpenSpec.upto nullJoinSpec)) nullJoinUptoCard

/-- THE SECOND FORM's CARD OF 'exegetelaw11.ReachWithin'. -/
def reachWithinUptoCard : Claim7 := { stood := { row := reachWithinUptoRow, standIns := [], harness := (true, "db7c3aaa92c0d27e8fdc83536e01cd5ed08ee090bdea2f5c41c2c95decb5f8cf"), looks := true }, kinds := [], alts := [], laidByText := true, laidKinds := [.data, .pinned], laidTests := true, laidLooks := .later }
def ReachWithinUptoCardSaid : Prop := Claim7.holds Tryz.pinned (.plain (OpenSpec.upto reachWithinSpec)) reachWithinUptoCard
end Rows
end Go.Proofs.YtacihjabkiedcaaGreatDoor
