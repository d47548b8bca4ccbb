/-
  DERIVED. GIVEN WITH THE SEED: THE CARDS: each row of YtkminfdblimiiaaGreatDoorRows.lean that lists a variable, with what it lists TIED to the program's text (the seventh form; the later family's looks); each row that meets fmt, with fmt's text TOLD by the authors' own Lean function (tested against real Go, not proved from fmt's source: count such statements apart). THE CARD IS WHAT COUNTS. Prove the row's statement (the work); the ties are given (YtkminfdblimiiaaGreatDoorTie.lean); close each card by the builder's one call (the guide's Derived/Test/ToyasCard.lean, 'card_holds'). Laid BY PROGRAM, IN A SANDBOX (cutbox-door.mjs). By AI agents, Wed Nov 11 2026. No macro, syntax, notation, axiom, sorry.
-/
import Derived.Test.YtkminfdblimiiaaGreatDoorRows
import GoSem.ClaimSeven
namespace Go.Proofs.YtkminfdblimiiaaGreatDoor
namespace Rows

/-- THE TIED CARD OF 'exegetelaw12.StrataTell'. -/
def strataTellCard : Claim7 := { stood := { row := strataTellRow, standIns := [], harness := (true, "fc0bc9d7848c7cc449823f3dfd9aa7bc375947d6dc1f9a9602df0d53fef30130"), looks := true }, kinds := [], alts := [], laidByText := true, laidKinds := [.data, .pinned], laidTests := true, laidLooks := .later }
def StrataTellCardSaid : Prop := Claim7.holds Tryz.pinned (.plain (OpenSpec.ofChange strataTellSpec)) strataTellCard

/-- THE TIED CARD OF 'exegetelaw12.StrataOrder'. -/
def strataOrderCard : Claim7 := { stood := { row := strataOrderRow, standIns := [], harness := (true, "fc0bc9d7848c7cc449823f3dfd9aa7bc375947d6dc1f9a9602df0d53fef30130"), looks := true }, kinds := [], alts := [], laidByText := true, laidKinds := [.data, .pinned], laidTests := true, laidLooks := .later }
def StrataOrderCardSaid : Prop := Claim7.holds Tryz.pinned (.plain (OpenSpec.ofChange strataOrderSpec)) strataOrderCard

/-- THE TIED CARD OF 'exegetelaw12.StrataLess'. -/
def strataLessCard : Claim7 := { stood := { row := strataLessRow, standIns := [], harness := (true, "fc0bc9d7848c7cc449823f3dfd9aa7bc375947d6dc1f9a9602df0d53fef30130"), looks := true }, kinds := [], alts := [], laidByText := true, laidKinds := [.data, .pinned], laidTests := true, laidLooks := .later }
def StrataLessCardSaid : Prop := Claim7.holds Tryz.pinned (.plain (OpenSpec.ofChange strataLessSpec)) strataLessCard

/-- THE TIED CARD OF 'exegetelaw12.StrataWho'. -/
def strataWhoCard : Claim7 := { stood := { row := strataWhoRow, standIns := [], harness := (true, "fc0bc9d7848c7cc449823f3dfd9aa7bc375947d6dc1f9a9602df0d53fef30130"), looks := true }, kinds := [], alts := [], laidByText := true, laidKinds := [.data, .pinned], laidTests := true, laidLooks := .later }
def StrataWhoCardSaid : Prop := Claim7.holds Tryz.pinned (.plain (OpenSpec.ofChange strataWhoSpec)) strataWhoCard

/-- THE TIED CARD OF 'exegetelaw12.StrataFirst'. -/
def strataFirstCard : Claim7 := { stood := { row := strataFirstRow, standIns := [], harness := (true, "fc0bc9d7848c7cc449823f3dfd9aa7bc375947d6dc1f9a9602df0d53fef30130"), looks := true }, kinds := [], alts := [], laidByText := true, laidKinds := [.data, .pinned], laidTests := true, laidLooks := .later }
def StrataFirstCardSaid : Prop := Claim7.holds Tryz.pinned (.plain (OpenSpec.ofChange strataFirstSpec)) strataFirstCard

/-- THE SECOND FORM's CARD OF 'exegetelaw12.StrataTell'. -/
def strataTellUptoCard : Claim7 := { stood := { row := strataTellUptoRow, standIns := [], harness := (true, "fc0bc9d7848c7cc449823f3dfd9aa7bc375947d6dc1f9a9602df0d53fef30130"), looks := true }, kinds := [], alts := [], laidByText := true, laidKinds := [.data, .pinned], laidTests := true, laidLooks := .later }
def StrataTellUptoCardSaid : Prop := Claim7.holds Tryz.pinned (.plain (OpenSpec.upto strataTellSpec)) strataTellUptoCard

/-- THE SECOND FORM's CARD OF 'exegetelaw12.StrataOrder'. -/
def strataOrderUptoCard : Claim7 := { stood := { row := strataOrderUptoRow, standIns := [], harness := (true, "fc0bc9d7848c7cc449823f3dfd9aa7bc375947d6dc1f9a9602df0d53fef30130"), looks := true }, kinds := [], alts := [], laidByText := true, laidKinds := [.data, .pinned], laidTests := true, laidLooks := .later }
def StrataOrderUptoCardSaid : Prop := Claim7.holds Tryz.pinned (.plain (OpenSpec.upto strataOrderSpec)) strataOrderUptoCard

/-- THE SECOND FORM's CARD OF 'exegetelaw12.StrataLess'. -/
def strataLessUptoCard : Claim7 := { stood := { row := strataLessUptoRow, standIns := [], harness := (true, "fc0bc9d7848c7cc449823f3dfd9aa7bc375947d6dc1f9a9602df0d53fef30130"), looks := true }, kinds := [], alts := [], laidByText := true, laidKinds := [.data, .pinned], laidTests := true, laidLooks := .later }
def StrataLessUptoCardSaid : Prop := Claim7.holds Tryz.pinned (.plain (OpenSpec.upto strataLessSpec)) strataLessUptoCard

/-- THE SECOND FORM's CARD OF 'exegetelaw12.StrataWho'. -/
def strataWhoUptoCard : Claim7 := { stood := { row := strataWhoUptoRow, standIns := [], harness := (true, "fc0bc9d7848c7cc449823f3dfd9aa7bc375947d6dc1f9a9602df0d53fef30130"), looks := true }, kinds := [], alts := [], laidByText := true, laidKinds := [.data, .pinned], laidTests := true, laidLooks := .later }
def StrataWhoUptoCardSaid : Prop := Claim7.holds Tryz.pinned (.plain (OpenSpec.upto strataWhoSpec)) strataWhoUptoCard

/-- THE SECOND FORM's CARD OF 'exegetelaw12.StrataFirst'. -/
def strataFirstUptoCard : Claim7 := { stood := { row := strataFirstUptoRow, standIns := [], harness := (true, "fc0bc9d7848c7cc449823f3dfd9aa7bc375947d6dc1f9a9602df0d53fef30130"), looks := true }, kinds := [], alts := [], laidByText := true, laidKinds := [.data, .pinned], laidTests := true, laidLooks := .later }
def StrataFirstUptoCardSaid : Prop := Claim7.holds Tryz.pinned (.plain (OpenSpec.upto strataFirstSpec)) strataFirstUptoCard
end Rows
end Go.Proofs.YtkminfdblimiiaaGreatDoor
