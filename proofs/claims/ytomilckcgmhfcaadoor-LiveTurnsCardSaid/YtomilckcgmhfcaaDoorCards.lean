/-
  DERIVED. GIVEN WITH THE SEED: THE CARDS: each row of YtomilckcgmhfcaaDoorRows.lean that lists a variable, with what it lists TIED to the program's text (the seventh form; the later family's looks); each row that meets fmt, with fmt's text TOLD by the authors' own Lean function (tested against real Go, not proved from fmt's source: count such statements apart). THE CARD IS WHAT COUNTS. Prove the row's statement (the work); the ties are given (YtomilckcgmhfcaaDoorTie.lean); close each card by the builder's one call (the guide's Derived/Test/ToyasCard.lean, 'card_holds'). Laid BY PROGRAM, IN A SANDBOX (cutbox-door.mjs). By AI agents, Wed Nov 11 2026. No macro, syntax, notation, axiom, sorry.
-/
import Derived.Test.YtomilckcgmhfcaaDoorRows
import GoSem.ClaimSeven
namespace Go.Proofs.YtomilckcgmhfcaaDoor
namespace Rows

/-- THE TIED CARD OF 'pharoslaw11.LiveOrders'. -/
def liveOrdersCard : Claim7 := { stood := { row := liveOrdersRow, standIns := [], harness := (true, "4eba4e6167abe0c0115f7e4014484e3b3f5f694a65a26b971c0e9de1726dbc3b"), looks := false }, kinds := [], alts := [], laidByText := true, laidKinds := [.data, .data, .data], laidTests := true, laidLooks := .later }
def LiveOrdersCardSaid : Prop := Claim7.holds Tryd.pinned (.plain (OpenSpec.ofChange liveOrdersSpec)) liveOrdersCard

/-- THE TIED CARD OF 'pharoslaw11.LiveTurns'. -/
def liveTurnsCard : Claim7 := { stood := { row := liveTurnsRow, standIns := [], harness := (true, "4eba4e6167abe0c0115f7e4014484e3b3f5f694a65a26b971c0e9de1726dbc3b"), looks := false }, kinds := [], alts := [], laidByText := true, laidKinds := [.data, .data, .data, .data], laidTests := true, laidLooks := .later }
def LiveTurnsCardSaid : Prop := Claim7.holds Tryd.pinned (.plain (OpenSpec.ofChange liveTurnsSpec)) liveTurnsCard

/-- THE SECOND FORM's CARD OF 'pharoslaw11.LiveOrders'. -/
def liveOrdersUptoCard : Claim7 := { stood := { row := liveOrdersUptoRow, standIns := [], harness := (true, "4eba4e6167abe0c0115f7e4014484e3b3f5f694a65a26b971c0e9de1726dbc3b"), looks := false }, kinds := [], alts := [], laidByText := true, laidKinds := [.data, .data, .data], laidTests := true, laidLooks := .later }
def LiveOrdersUptoCardSaid : Prop := Claim7.holds Tryd.pinned (.plain (OpenSpec.upto liveOrdersSpec)) liveOrdersUptoCard

/-- THE SECOND FORM's CARD OF 'pharoslaw11.LiveTurns'. -/
def liveTurnsUptoCard : Claim7 := { stood := { row := liveTurnsUptoRow, standIns := [], harness := (true, "4eba4e6167abe0c0115f7e4014484e3b3f5f694a65a26b971c0e9de1726dbc3b"), looks := false }, kinds := [], alts := [], laidByText := true, laidKinds := [.data, .data, .data, .data], laidTests := true, laidLooks := .later }
def LiveTurnsUptoCardSaid : Prop := Claim7.holds Tryd.pinned (.plain (OpenSpec.upto liveTurnsSpec)) liveTurnsUptoCard
end Rows
end Go.Proofs.YtomilckcgmhfcaaDoor
