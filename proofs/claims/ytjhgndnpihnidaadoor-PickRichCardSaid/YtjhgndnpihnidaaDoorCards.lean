/-
  DERIVED. GIVEN WITH THE SEED: THE CARDS: each row of YtjhgndnpihnidaaDoorRows.lean that lists a variable, with what it lists TIED to the program's text (the seventh form; the later family's looks); each row that meets fmt, with fmt's text TOLD by the authors' own Lean function (tested against real Go, not proved from fmt's source: count such statements apart). THE CARD IS WHAT COUNTS. Prove the row's statement (the work); the ties are given (YtjhgndnpihnidaaDoorTie.lean); close each card by the builder's one call (the guide's Derived/Test/ToyasCard.lean, 'card_holds'). Laid BY PROGRAM, IN A SANDBOX (cutbox-door.mjs). By AI agents, Wed Nov 11 2026. No macro, syntax, notation, axiom, sorry.
-/
import Derived.Test.YtjhgndnpihnidaaDoorRows
import GoSem.ClaimSeven
namespace Go.Proofs.YtjhgndnpihnidaaDoor
namespace Rows

/-- THE TIED CARD OF 'pharoslaw15.PickProposers'. -/
def pickProposersCard : Claim7 := { stood := { row := pickProposersRow, standIns := [], harness := (true, "3c1c9c581a2f79be0d174302c5c1ddcad96d76f96e3946d55bbc6dc97f2694e3"), looks := false }, kinds := [], alts := [], laidByText := true, laidKinds := [.data, .data, .data], laidTests := true, laidLooks := .later }
def PickProposersCardSaid : Prop := Claim7.holds Tryd.pinned (.plain (OpenSpec.ofChange pickProposersSpec)) pickProposersCard

/-- THE TIED CARD OF 'pharoslaw15.PickRich'. -/
def pickRichCard : Claim7 := { stood := { row := pickRichRow, standIns := [], harness := (true, "3c1c9c581a2f79be0d174302c5c1ddcad96d76f96e3946d55bbc6dc97f2694e3"), looks := false }, kinds := [], alts := [], laidByText := true, laidKinds := [.data, .data], laidTests := true, laidLooks := .later }
def PickRichCardSaid : Prop := Claim7.holds Tryd.pinned (.plain (OpenSpec.ofChange pickRichSpec)) pickRichCard

/-- THE TIED CARD OF 'pharoslaw06.TreeOrders'. -/
def treeOrdersCard : Claim7 := { stood := { row := treeOrdersRow, standIns := [], harness := (true, "3c1c9c581a2f79be0d174302c5c1ddcad96d76f96e3946d55bbc6dc97f2694e3"), looks := false }, kinds := [], alts := [], laidByText := true, laidKinds := [.data, .data, .data], laidTests := true, laidLooks := .later }
def TreeOrdersCardSaid : Prop := Claim7.holds Tryd.pinned (.plain (OpenSpec.ofChange treeOrdersSpec)) treeOrdersCard

/-- THE TIED CARD OF 'pharoslaw06.TreeGrows'. -/
def treeGrowsCard : Claim7 := { stood := { row := treeGrowsRow, standIns := [], harness := (true, "3c1c9c581a2f79be0d174302c5c1ddcad96d76f96e3946d55bbc6dc97f2694e3"), looks := false }, kinds := [], alts := [], laidByText := true, laidKinds := [.data, .data, .data], laidTests := true, laidLooks := .later }
def TreeGrowsCardSaid : Prop := Claim7.holds Tryd.pinned (.plain (OpenSpec.ofChange treeGrowsSpec)) treeGrowsCard

/-- THE TIED CARD OF 'pharoslaw15.PickSums'. -/
def pickSumsCard : Claim7 := { stood := { row := pickSumsRow, standIns := [], harness := (true, "3c1c9c581a2f79be0d174302c5c1ddcad96d76f96e3946d55bbc6dc97f2694e3"), looks := false }, kinds := [], alts := [], laidByText := true, laidKinds := [.data, .data, .data], laidTests := true, laidLooks := .later }
def PickSumsCardSaid : Prop := Claim7.holds Tryd.pinned (.plain (OpenSpec.ofChange pickSumsSpec)) pickSumsCard

/-- THE TIED CARD OF 'pharoslaw06.TreeCopies'. -/
def treeCopiesCard : Claim7 := { stood := { row := treeCopiesRow, standIns := [], harness := (true, "3c1c9c581a2f79be0d174302c5c1ddcad96d76f96e3946d55bbc6dc97f2694e3"), looks := false }, kinds := [], alts := [], laidByText := true, laidKinds := [.data, .data, .data, .data], laidTests := true, laidLooks := .later }
def TreeCopiesCardSaid : Prop := Claim7.holds Tryd.pinned (.plain (OpenSpec.ofChange treeCopiesSpec)) treeCopiesCard

/-- THE TIED CARD OF 'pharoslaw15.PickSyncs'. -/
def pickSyncsCard : Claim7 := { stood := { row := pickSyncsRow, standIns := [], harness := (true, "3c1c9c581a2f79be0d174302c5c1ddcad96d76f96e3946d55bbc6dc97f2694e3"), looks := false }, kinds := [], alts := [], laidByText := true, laidKinds := [.data, .data, .data], laidTests := true, laidLooks := .later }
def PickSyncsCardSaid : Prop := Claim7.holds Tryd.pinned (.plain (OpenSpec.ofChange pickSyncsSpec)) pickSyncsCard

/-- THE TIED CARD OF 'pharoslaw06.TreeWork'. -/
def treeWorkCard : Claim7 := { stood := { row := treeWorkRow, standIns := [], harness := (true, "3c1c9c581a2f79be0d174302c5c1ddcad96d76f96e3946d55bbc6dc97f2694e3"), looks := false }, kinds := [], alts := [], laidByText := true, laidKinds := [.data, .data, .data, .data], laidTests := true, laidLooks := .later }
def TreeWorkCardSaid : Prop := Claim7.holds Tryd.pinned (.plain (OpenSpec.ofChange treeWorkSpec)) treeWorkCard

/-- THE TIED CARD OF 'pharoslaw06.TreePlays'. -/
def treePlaysCard : Claim7 := { stood := { row := treePlaysRow, standIns := [], harness := (true, "3c1c9c581a2f79be0d174302c5c1ddcad96d76f96e3946d55bbc6dc97f2694e3"), looks := false }, kinds := [], alts := [], laidByText := true, laidKinds := [.data, .data, .data, .data], laidTests := true, laidLooks := .later }
def TreePlaysCardSaid : Prop := Claim7.holds Tryd.pinned (.plain (OpenSpec.ofChange treePlaysSpec)) treePlaysCard

/-- THE SECOND FORM's CARD OF 'pharoslaw15.PickProposers'. -/
def pickProposersUptoCard : Claim7 := { stood := { row := pickProposersUptoRow, standIns := [], harness := (true, "3c1c9c581a2f79be0d174302c5c1ddcad96d76f96e3946d55bbc6dc97f2694e3"), looks := false }, kinds := [], alts := [], laidByText := true, laidKinds := [.data, .data, .data], laidTests := true, laidLooks := .later }
def PickProposersUptoCardSaid : Prop := Claim7.holds Tryd.pinned (.plain (OpenSpec.upto pickProposersSpec)) pickProposersUptoCard

/-- THE SECOND FORM's CARD OF 'pharoslaw15.PickRich'. -/
def pickRichUptoCard : Claim7 := { stood := { row := pickRichUptoRow, standIns := [], harness := (true, "3c1c9c581a2f79be0d174302c5c1ddcad96d76f96e3946d55bbc6dc97f2694e3"), looks := false }, kinds := [], alts := [], laidByText := true, laidKinds := [.data, .data], laidTests := true, laidLooks := .later }
def PickRichUptoCardSaid : Prop := Claim7.holds Tryd.pinned (.plain (OpenSpec.upto pickRichSpec)) pickRichUptoCard

/-- THE SECOND FORM's CARD OF 'pharoslaw06.TreeOrders'. -/
def treeOrdersUptoCard : Claim7 := { stood := { row := treeOrdersUptoRow, standIns := [], harness := (true, "3c1c9c581a2f79be0d174302c5c1ddcad96d76f96e3946d55bbc6dc97f2694e3"), looks := false }, kinds := [], alts := [], laidByText := true, laidKinds := [.data, .data, .data], laidTests := true, laidLooks := .later }
def TreeOrdersUptoCardSaid : Prop := Claim7.holds Tryd.pinned (.plain (OpenSpec.upto treeOrdersSpec)) treeOrdersUptoCard

/-- THE SECOND FORM's CARD OF 'pharoslaw06.TreeGrows'. -/
def treeGrowsUptoCard : Claim7 := { stood := { row := treeGrowsUptoRow, standIns := [], harness := (true, "3c1c9c581a2f79be0d174302c5c1ddcad96d76f96e3946d55bbc6dc97f2694e3"), looks := false }, kinds := [], alts := [], laidByText := true, laidKinds := [.data, .data, .data], laidTests := true, laidLooks := .later }
def TreeGrowsUptoCardSaid : Prop := Claim7.holds Tryd.pinned (.plain (OpenSpec.upto treeGrowsSpec)) treeGrowsUptoCard

/-- THE SECOND FORM's CARD OF 'pharoslaw15.PickSums'. -/
def pickSumsUptoCard : Claim7 := { stood := { row := pickSumsUptoRow, standIns := [], harness := (true, "3c1c9c581a2f79be0d174302c5c1ddcad96d76f96e3946d55bbc6dc97f2694e3"), looks := false }, kinds := [], alts := [], laidByText := true, laidKinds := [.data, .data, .data], laidTests := true, laidLooks := .later }
def PickSumsUptoCardSaid : Prop := Claim7.holds Tryd.pinned (.plain (OpenSpec.upto pickSumsSpec)) pickSumsUptoCard

/-- THE SECOND FORM's CARD OF 'pharoslaw06.TreeCopies'. -/
def treeCopiesUptoCard : Claim7 := { stood := { row := treeCopiesUptoRow, standIns := [], harness := (true, "3c1c9c581a2f79be0d174302c5c1ddcad96d76f96e3946d55bbc6dc97f2694e3"), looks := false }, kinds := [], alts := [], laidByText := true, laidKinds := [.data, .data, .data, .data], laidTests := true, laidLooks := .later }
def TreeCopiesUptoCardSaid : Prop := Claim7.holds Tryd.pinned (.plain (OpenSpec.upto treeCopiesSpec)) treeCopiesUptoCard

/-- THE SECOND FORM's CARD OF 'pharoslaw15.PickSyncs'. -/
def pickSyncsUptoCard : Claim7 := { stood := { row := pickSyncsUptoRow, standIns := [], harness := (true, "3c1c9c581a2f79be0d174302c5c1ddcad96d76f96e3946d55bbc6dc97f2694e3"), looks := false }, kinds := [], alts := [], laidByText := true, laidKinds := [.data, .data, .data], laidTests := true, laidLooks := .later }
def PickSyncsUptoCardSaid : Prop := Claim7.holds Tryd.pinned (.plain (OpenSpec.upto pickSyncsSpec)) pickSyncsUptoCard

/-- THE SECOND FORM's CARD OF 'pharoslaw06.TreeWork'. -/
def treeWorkUptoCard : Claim7 := { stood := { row := treeWorkUptoRow, standIns := [], harness := (true, "3c1c9c581a2f79be0d174302c5c1ddcad96d76f96e3946d55bbc6dc97f2694e3"), looks := false }, kinds := [], alts := [], laidByText := true, laidKinds := [.data, .data, .data, .data], laidTests := true, laidLooks := .later }
def TreeWorkUptoCardSaid : Prop := Claim7.holds Tryd.pinned (.plain (OpenSpec.upto treeWorkSpec)) treeWorkUptoCard

/-- THE SECOND FORM's CARD OF 'pharoslaw06.TreePlays'. -/
def treePlaysUptoCard : Claim7 := { stood := { row := treePlaysUptoRow, standIns := [], harness := (true, "3c1c9c581a2f79be0d174302c5c1ddcad96d76f96e3946d55bbc6dc97f2694e3"), looks := false }, kinds := [], alts := [], laidByText := true, laidKinds := [.data, .data, .data, .data], laidTests := true, laidLooks := .later }
def TreePlaysUptoCardSaid : Prop := Claim7.holds Tryd.pinned (.plain (OpenSpec.upto treePlaysSpec)) treePlaysUptoCard
end Rows
end Go.Proofs.YtjhgndnpihnidaaDoor
