/-
  DERIVED. GIVEN WITH THE SEED: THE CARDS: each row of YtjmbgdldnnmipaaDoorRows.lean that lists a variable, with what it lists TIED to the program's text (the seventh form; the later family's looks); each row that meets fmt, with fmt's text TOLD by the authors' own Lean function (tested against real Go, not proved from fmt's source: count such statements apart). THE CARD IS WHAT COUNTS. Prove the row's statement (the work); the ties are given (YtjmbgdldnnmipaaDoorTie.lean); close each card by the builder's one call (the guide's Derived/Test/ToyasCard.lean, 'card_holds'). Laid BY PROGRAM, IN A SANDBOX (cutbox-door.mjs). By AI agents, Wed Nov 11 2026. No macro, syntax, notation, axiom, sorry.
-/
import Derived.Test.YtjmbgdldnnmipaaDoorRows
import GoSem.ClaimSeven
namespace Go.Proofs.YtjmbgdldnnmipaaDoor
namespace Rows

/-- THE TIED CARD OF 'pharoslaw05.MerkleHolds'. -/
def merkleHoldsCard : Claim7 := { stood := { row := merkleHoldsRow, standIns := [], harness := (true, "d17aceb259ad226918e4825e724ab7c59751442c45fd716e809350627fdd034f"), looks := false }, kinds := [], alts := [], laidByText := true, laidKinds := [.data, .data, .data], laidTests := true, laidLooks := .later }
def MerkleHoldsCardSaid : Prop := Claim7.holds Tryd.pinned (.plain (OpenSpec.ofChange merkleHoldsSpec)) merkleHoldsCard

/-- THE TIED CARD OF 'pharoslaw05.MerkleHalves'. -/
def merkleHalvesCard : Claim7 := { stood := { row := merkleHalvesRow, standIns := [], harness := (true, "d17aceb259ad226918e4825e724ab7c59751442c45fd716e809350627fdd034f"), looks := false }, kinds := [], alts := [], laidByText := true, laidKinds := [.data, .data], laidTests := true, laidLooks := .later }
def MerkleHalvesCardSaid : Prop := Claim7.holds Tryd.pinned (.plain (OpenSpec.ofChange merkleHalvesSpec)) merkleHalvesCard

/-- THE TIED CARD OF 'pharoslaw05.MerklePacks'. -/
def merklePacksCard : Claim7 := { stood := { row := merklePacksRow, standIns := [], harness := (true, "d17aceb259ad226918e4825e724ab7c59751442c45fd716e809350627fdd034f"), looks := false }, kinds := [], alts := [], laidByText := true, laidKinds := [.data, .data], laidTests := true, laidLooks := .later }
def MerklePacksCardSaid : Prop := Claim7.holds Tryd.pinned (.plain (OpenSpec.ofChange merklePacksSpec)) merklePacksCard

/-- THE TIED CARD OF 'pharoslaw05.MerkleTrees'. -/
def merkleTreesCard : Claim7 := { stood := { row := merkleTreesRow, standIns := [], harness := (true, "d17aceb259ad226918e4825e724ab7c59751442c45fd716e809350627fdd034f"), looks := false }, kinds := [], alts := [], laidByText := true, laidKinds := [.data, .data, .data], laidTests := true, laidLooks := .later }
def MerkleTreesCardSaid : Prop := Claim7.holds Tryd.pinned (.plain (OpenSpec.ofChange merkleTreesSpec)) merkleTreesCard

/-- THE TIED CARD OF 'pharoslaw05.MerkleMixes'. -/
def merkleMixesCard : Claim7 := { stood := { row := merkleMixesRow, standIns := [], harness := (true, "d17aceb259ad226918e4825e724ab7c59751442c45fd716e809350627fdd034f"), looks := false }, kinds := [], alts := [], laidByText := true, laidKinds := [.data, .data], laidTests := true, laidLooks := .later }
def MerkleMixesCardSaid : Prop := Claim7.holds Tryd.pinned (.plain (OpenSpec.ofChange merkleMixesSpec)) merkleMixesCard

/-- THE TIED CARD OF 'pharoslaw05.MerkleBranches'. -/
def merkleBranchesCard : Claim7 := { stood := { row := merkleBranchesRow, standIns := [], harness := (true, "d17aceb259ad226918e4825e724ab7c59751442c45fd716e809350627fdd034f"), looks := false }, kinds := [], alts := [], laidByText := true, laidKinds := [.data, .data, .data], laidTests := true, laidLooks := .later }
def MerkleBranchesCardSaid : Prop := Claim7.holds Tryd.pinned (.plain (OpenSpec.ofChange merkleBranchesSpec)) merkleBranchesCard

/-- THE TIED CARD OF 'pharoslaw12.ShufLists'. -/
def shufListsCard : Claim7 := { stood := { row := shufListsRow, standIns := [], harness := (true, "d17aceb259ad226918e4825e724ab7c59751442c45fd716e809350627fdd034f"), looks := false }, kinds := [], alts := [], laidByText := true, laidKinds := [.data, .data, .data], laidTests := true, laidLooks := .later }
def ShufListsCardSaid : Prop := Claim7.holds Tryd.pinned (.plain (OpenSpec.ofChange shufListsSpec)) shufListsCard

/-- THE TIED CARD OF 'pharoslaw12.ShufAll'. -/
def shufAllCard : Claim7 := { stood := { row := shufAllRow, standIns := [], harness := (true, "d17aceb259ad226918e4825e724ab7c59751442c45fd716e809350627fdd034f"), looks := false }, kinds := [], alts := [], laidByText := true, laidKinds := [.data, .data], laidTests := true, laidLooks := .later }
def ShufAllCardSaid : Prop := Claim7.holds Tryd.pinned (.plain (OpenSpec.ofChange shufAllSpec)) shufAllCard

/-- THE TIED CARD OF 'pharoslaw12.ShufEdges'. -/
def shufEdgesCard : Claim7 := { stood := { row := shufEdgesRow, standIns := [], harness := (true, "d17aceb259ad226918e4825e724ab7c59751442c45fd716e809350627fdd034f"), looks := false }, kinds := [], alts := [], laidByText := true, laidKinds := [.data, .data, .data], laidTests := true, laidLooks := .later }
def ShufEdgesCardSaid : Prop := Claim7.holds Tryd.pinned (.plain (OpenSpec.ofChange shufEdgesSpec)) shufEdgesCard

/-- THE TIED CARD OF 'pharoslaw12.ShufAlike'. -/
def shufAlikeCard : Claim7 := { stood := { row := shufAlikeRow, standIns := [], harness := (true, "d17aceb259ad226918e4825e724ab7c59751442c45fd716e809350627fdd034f"), looks := false }, kinds := [], alts := [], laidByText := true, laidKinds := [.data, .data], laidTests := true, laidLooks := .later }
def ShufAlikeCardSaid : Prop := Claim7.holds Tryd.pinned (.plain (OpenSpec.ofChange shufAlikeSpec)) shufAlikeCard

/-- THE TIED CARD OF 'pharoslaw12.ShufPlaces'. -/
def shufPlacesCard : Claim7 := { stood := { row := shufPlacesRow, standIns := [], harness := (true, "d17aceb259ad226918e4825e724ab7c59751442c45fd716e809350627fdd034f"), looks := false }, kinds := [], alts := [], laidByText := true, laidKinds := [.data, .data, .data], laidTests := true, laidLooks := .later }
def ShufPlacesCardSaid : Prop := Claim7.holds Tryd.pinned (.plain (OpenSpec.ofChange shufPlacesSpec)) shufPlacesCard

/-- THE SECOND FORM's CARD OF 'pharoslaw05.MerkleHolds'. -/
def merkleHoldsUptoCard : Claim7 := { stood := { row := merkleHoldsUptoRow, standIns := [], harness := (true, "d17aceb259ad226918e4825e724ab7c59751442c45fd716e809350627fdd034f"), looks := false }, kinds := [], alts := [], laidByText := true, laidKinds := [.data, .data, .data], laidTests := true, laidLooks := .later }
def MerkleHoldsUptoCardSaid : Prop := Claim7.holds Tryd.pinned (.plain (OpenSpec.upto merkleHoldsSpec)) merkleHoldsUptoCard

/-- THE SECOND FORM's CARD OF 'pharoslaw05.MerkleHalves'. -/
def merkleHalvesUptoCard : Claim7 := { stood := { row := merkleHalvesUptoRow, standIns := [], harness := (true, "d17aceb259ad226918e4825e724ab7c59751442c45fd716e809350627fdd034f"), looks := false }, kinds := [], alts := [], laidByText := true, laidKinds := [.data, .data], laidTests := true, laidLooks := .later }
def MerkleHalvesUptoCardSaid : Prop := Claim7.holds Tryd.pinned (.plain (OpenSpec.upto merkleHalvesSpec)) merkleHalvesUptoCard

/-- THE SECOND FORM's CARD OF 'pharoslaw05.MerklePacks'. -/
def merklePacksUptoCard : Claim7 := { stood := { row := merklePacksUptoRow, standIns := [], harness := (true, "d17aceb259ad226918e4825e724ab7c59751442c45fd716e809350627fdd034f"), looks := false }, kinds := [], alts := [], laidByText := true, laidKinds := [.data, .data], laidTests := true, laidLooks := .later }
def MerklePacksUptoCardSaid : Prop := Claim7.holds Tryd.pinned (.plain (OpenSpec.upto merklePacksSpec)) merklePacksUptoCard

/-- THE SECOND FORM's CARD OF 'pharoslaw05.MerkleTrees'. -/
def merkleTreesUptoCard : Claim7 := { stood := { row := merkleTreesUptoRow, standIns := [], harness := (true, "d17aceb259ad226918e4825e724ab7c59751442c45fd716e809350627fdd034f"), looks := false }, kinds := [], alts := [], laidByText := true, laidKinds := [.data, .data, .data], laidTests := true, laidLooks := .later }
def MerkleTreesUptoCardSaid : Prop := Claim7.holds Tryd.pinned (.plain (OpenSpec.upto merkleTreesSpec)) merkleTreesUptoCard

/-- THE SECOND FORM's CARD OF 'pharoslaw05.MerkleMixes'. -/
def merkleMixesUptoCard : Claim7 := { stood := { row := merkleMixesUptoRow, standIns := [], harness := (true, "d17aceb259ad226918e4825e724ab7c59751442c45fd716e809350627fdd034f"), looks := false }, kinds := [], alts := [], laidByText := true, laidKinds := [.data, .data], laidTests := true, laidLooks := .later }
def MerkleMixesUptoCardSaid : Prop := Claim7.holds Tryd.pinned (.plain (OpenSpec.upto merkleMixesSpec)) merkleMixesUptoCard

/-- THE SECOND FORM's CARD OF 'pharoslaw05.MerkleBranches'. -/
def merkleBranchesUptoCard : Claim7 := { stood := { row := merkleBranchesUptoRow, standIns := [], harness := (true, "d17aceb259ad226918e4825e724ab7c59751442c45fd716e809350627fdd034f"), looks := false }, kinds := [], alts := [], laidByText := true, laidKinds := [.data, .data, .data], laidTests := true, laidLooks := .later }
def MerkleBranchesUptoCardSaid : Prop := Claim7.holds Tryd.pinned (.plain (OpenSpec.upto merkleBranchesSpec)) merkleBranchesUptoCard

/-- THE SECOND FORM's CARD OF 'pharoslaw12.ShufLists'. -/
def shufListsUptoCard : Claim7 := { stood := { row := shufListsUptoRow, standIns := [], harness := (true, "d17aceb259ad226918e4825e724ab7c59751442c45fd716e809350627fdd034f"), looks := false }, kinds := [], alts := [], laidByText := true, laidKinds := [.data, .data, .data], laidTests := true, laidLooks := .later }
def ShufListsUptoCardSaid : Prop := Claim7.holds Tryd.pinned (.plain (OpenSpec.upto shufListsSpec)) shufListsUptoCard

/-- THE SECOND FORM's CARD OF 'pharoslaw12.ShufAll'. -/
def shufAllUptoCard : Claim7 := { stood := { row := shufAllUptoRow, standIns := [], harness := (true, "d17aceb259ad226918e4825e724ab7c59751442c45fd716e809350627fdd034f"), looks := false }, kinds := [], alts := [], laidByText := true, laidKinds := [.data, .data], laidTests := true, laidLooks := .later }
def ShufAllUptoCardSaid : Prop := Claim7.holds Tryd.pinned (.plain (OpenSpec.upto shufAllSpec)) shufAllUptoCard

/-- THE SECOND FORM's CARD OF 'pharoslaw12.ShufEdges'. -/
def shufEdgesUptoCard : Claim7 := { stood := { row := shufEdgesUptoRow, standIns := [], harness := (true, "d17aceb259ad226918e4825e724ab7c59751442c45fd716e809350627fdd034f"), looks := false }, kinds := [], alts := [], laidByText := true, laidKinds := [.data, .data, .data], laidTests := true, laidLooks := .later }
def ShufEdgesUptoCardSaid : Prop := Claim7.holds Tryd.pinned (.plain (OpenSpec.upto shufEdgesSpec)) shufEdgesUptoCard

/-- THE SECOND FORM's CARD OF 'pharoslaw12.ShufAlike'. -/
def shufAlikeUptoCard : Claim7 := { stood := { row := shufAlikeUptoRow, standIns := [], harness := (true, "d17aceb259ad226918e4825e724ab7c59751442c45fd716e809350627fdd034f"), looks := false }, kinds := [], alts := [], laidByText := true, laidKinds := [.data, .data], laidTests := true, laidLooks := .later }
def ShufAlikeUptoCardSaid : Prop := Claim7.holds Tryd.pinned (.plain (OpenSpec.upto shufAlikeSpec)) shufAlikeUptoCard

/-- THE SECOND FORM's CARD OF 'pharoslaw12.ShufPlaces'. -/
def shufPlacesUptoCard : Claim7 := { stood := { row := shufPlacesUptoRow, standIns := [], harness := (true, "d17aceb259ad226918e4825e724ab7c59751442c45fd716e809350627fdd034f"), looks := false }, kinds := [], alts := [], laidByText := true, laidKinds := [.data, .data, .data], laidTests := true, laidLooks := .later }
def ShufPlacesUptoCardSaid : Prop := Claim7.holds Tryd.pinned (.plain (OpenSpec.upto shufPlacesSpec)) shufPlacesUptoCard
end Rows
end Go.Proofs.YtjmbgdldnnmipaaDoor
