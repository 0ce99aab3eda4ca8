/-
  DERIVED. GIVEN WITH THE SEED: THE CARDS: each row of YtlcpflaofggmeaaDoorRows.lean that lists a variable, with what it lists TIED to the program's text (the seventh form; the later family's looks); each row that meets fmt, with fmt's text TOLD by the authors' own Lean function (tested against real Go, not proved from fmt's source: count such statements apart). THE CARD IS WHAT COUNTS. Prove the row's statement (the work); the ties are given (YtlcpflaofggmeaaDoorTie.lean); close each card by the builder's one call (the guide's Derived/Test/ToyasCard.lean, 'card_holds'). Laid BY PROGRAM, IN A SANDBOX (cutbox-door.mjs). By AI agents, Wed Nov 11 2026. No macro, syntax, notation, axiom, sorry.
-/
import Derived.Test.YtlcpflaofggmeaaDoorRows
import GoSem.ClaimSeven
namespace Go.Proofs.YtlcpflaofggmeaaDoor
namespace Rows

/-- THE TIED CARD OF 'pharoslaw06.TreeOrders'. -/
def treeOrdersCard : Claim7 := { stood := { row := treeOrdersRow, standIns := [], harness := (true, "daca0f3e889efc45a5741f1af9878934eb99be0fccf3bbb0b6b478b1c9949441"), looks := false }, kinds := [], alts := [], laidByText := true, laidKinds := [.data, .data, .data], laidTests := true, laidLooks := .later }
def TreeOrdersCardSaid : Prop := Claim7.holds Tryd.pinned (.plain (OpenSpec.ofChange treeOrdersSpec)) treeOrdersCard

/-- THE TIED CARD OF 'pharoslaw06.TreeGrows'. -/
def treeGrowsCard : Claim7 := { stood := { row := treeGrowsRow, standIns := [], harness := (true, "daca0f3e889efc45a5741f1af9878934eb99be0fccf3bbb0b6b478b1c9949441"), looks := false }, kinds := [], alts := [], laidByText := true, laidKinds := [.data, .data, .data], laidTests := true, laidLooks := .later }
def TreeGrowsCardSaid : Prop := Claim7.holds Tryd.pinned (.plain (OpenSpec.ofChange treeGrowsSpec)) treeGrowsCard

/-- THE TIED CARD OF 'pharoslaw06.TreeCopies'. -/
def treeCopiesCard : Claim7 := { stood := { row := treeCopiesRow, standIns := [], harness := (true, "daca0f3e889efc45a5741f1af9878934eb99be0fccf3bbb0b6b478b1c9949441"), looks := false }, kinds := [], alts := [], laidByText := true, laidKinds := [.data, .data, .data, .data], laidTests := true, laidLooks := .later }
def TreeCopiesCardSaid : Prop := Claim7.holds Tryd.pinned (.plain (OpenSpec.ofChange treeCopiesSpec)) treeCopiesCard

/-- THE TIED CARD OF 'pharoslaw06.TreeWork'. -/
def treeWorkCard : Claim7 := { stood := { row := treeWorkRow, standIns := [], harness := (true, "daca0f3e889efc45a5741f1af9878934eb99be0fccf3bbb0b6b478b1c9949441"), looks := false }, kinds := [], alts := [], laidByText := true, laidKinds := [.data, .data, .data, .data], laidTests := true, laidLooks := .later }
def TreeWorkCardSaid : Prop := Claim7.holds Tryd.pinned (.plain (OpenSpec.ofChange treeWorkSpec)) treeWorkCard

/-- THE TIED CARD OF 'pharoslaw06.TreePlays'. -/
def treePlaysCard : Claim7 := { stood := { row := treePlaysRow, standIns := [], harness := (true, "daca0f3e889efc45a5741f1af9878934eb99be0fccf3bbb0b6b478b1c9949441"), looks := false }, kinds := [], alts := [], laidByText := true, laidKinds := [.data, .data, .data, .data], laidTests := true, laidLooks := .later }
def TreePlaysCardSaid : Prop := Claim7.holds Tryd.pinned (.plain (OpenSpec.ofChange treePlaysSpec)) treePlaysCard

/-- THE SECOND FORM's CARD OF 'pharoslaw06.TreeOrders'. -/
def treeOrdersUptoCard : Claim7 := { stood := { row := treeOrdersUptoRow, standIns := [], harness := (true, "daca0f3e889efc45a5741f1af9878934eb99be0fccf3bbb0b6b478b1c9949441"), looks := false }, kinds := [], alts := [], laidByText := true, laidKinds := [.data, .data, .data], laidTests := true, laidLooks := .later }
def TreeOrdersUptoCardSaid : Prop := Claim7.holds Tryd.pinned (.plain (OpenSpec.upto treeOrdersSpec)) treeOrdersUptoCard

/-- THE SECOND FORM's CARD OF 'pharoslaw06.TreeGrows'. -/
def treeGrowsUptoCard : Claim7 := { stood := { row := treeGrowsUptoRow, standIns := [], harness := (true, "daca0f3e889efc45a5741f1af9878934eb99be0fccf3bbb0b6b478b1c9949441"), looks := false }, kinds := [], alts := [], laidByText := true, laidKinds := [.data, .data, .data], laidTests := true, laidLooks := .later }
def TreeGrowsUptoCardSaid : Prop := Claim7.holds Tryd.pinned (.plain (OpenSpec.upto treeGrowsSpec)) treeGrowsUptoCard

/-- THE SECOND FORM's CARD OF 'pharoslaw06.TreeCopies'. -/
def treeCopiesUptoCard : Claim7 := { stood := { row := treeCopiesUptoRow, standIns := [], harness := (true, "daca0f3e889efc45a5741f1af9878934eb99be0fccf3bbb0b6b478b1c9949441"), looks := false }, kinds := [], alts := [], laidByText := true, laidKinds := [.data, .data, .data, .data], laidTests := true, laidLooks := .later }
def TreeCopiesUptoCardSaid : Prop := Claim7.holds Tryd.pinned (.plain (OpenSpec.upto treeCopiesSpec)) treeCopiesUptoCard

/-- THE SECOND FORM's CARD OF 'pharoslaw06.TreeWork'. -/
def treeWorkUptoCard : Claim7 := { stood := { row := treeWorkUptoRow, standIns := [], harness := (true, "daca0f3e889efc45a5741f1af9878934eb99be0fccf3bbb0b6b478b1c9949441"), looks := false }, kinds := [], alts := [], laidByText := true, laidKinds := [.data, .data, .data, .data], laidTests := true, laidLooks := .later }
def TreeWorkUptoCardSaid : Prop := Claim7.holds Tryd.pinned (.plain (OpenSpec.upto treeWorkSpec)) treeWorkUptoCard

/-- THE SECOND FORM's CARD OF 'pharoslaw06.TreePlays'. -/
def treePlaysUptoCard : Claim7 := { stood := { row := treePlaysUptoRow, standIns := [], harness := (true, "daca0f3e889efc45a5741f1af9878934eb99be0fccf3bbb0b6b478b1c9949441"), looks := false }, kinds := [], alts := [], laidByText := true, laidKinds := [.data, .data, .data, .data], laidTests := true, laidLooks := .later }
def TreePlaysUptoCardSaid : Prop := Claim7.holds Tryd.pinned (.plain (OpenSpec.upto treePlaysSpec)) treePlaysUptoCard
end Rows
end Go.Proofs.YtlcpflaofggmeaaDoor
