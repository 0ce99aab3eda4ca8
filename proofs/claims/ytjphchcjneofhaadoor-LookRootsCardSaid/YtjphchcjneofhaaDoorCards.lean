/-
  DERIVED. GIVEN WITH THE SEED: THE CARDS: each row of YtjphchcjneofhaaDoorRows.lean that lists a variable, with what it lists TIED to the program's text (the seventh form; the later family's looks); each row that meets fmt, with fmt's text TOLD by the authors' own Lean function (tested against real Go, not proved from fmt's source: count such statements apart). THE CARD IS WHAT COUNTS. Prove the row's statement (the work); the ties are given (YtjphchcjneofhaaDoorTie.lean); close each card by the builder's one call (the guide's Derived/Test/ToyasCard.lean, 'card_holds'). Laid BY PROGRAM, IN A SANDBOX (cutbox-door.mjs). By AI agents, Wed Nov 11 2026. No macro, syntax, notation, axiom, sorry.
-/
import Derived.Test.YtjphchcjneofhaaDoorRows
import GoSem.ClaimSeven
namespace Go.Proofs.YtjphchcjneofhaaDoor
namespace Rows

/-- THE TIED CARD OF 'pharoslaw13.LookRoots'. -/
def lookRootsCard : Claim7 := { stood := { row := lookRootsRow, standIns := [], harness := (true, "5447f65c7aeca91e2201f618887e476a32885b48e75a4ac8123f15a623fa5b8d"), looks := false }, kinds := [], alts := [], laidByText := true, laidKinds := [.data, .data, .data], laidTests := true, laidLooks := .later }
def LookRootsCardSaid : Prop := Claim7.holds Tryd.pinned (.plain (OpenSpec.ofChange lookRootsSpec)) lookRootsCard

/-- THE SECOND FORM's CARD OF 'pharoslaw13.LookRoots'. -/
def lookRootsUptoCard : Claim7 := { stood := { row := lookRootsUptoRow, standIns := [], harness := (true, "5447f65c7aeca91e2201f618887e476a32885b48e75a4ac8123f15a623fa5b8d"), looks := false }, kinds := [], alts := [], laidByText := true, laidKinds := [.data, .data, .data], laidTests := true, laidLooks := .later }
def LookRootsUptoCardSaid : Prop := Claim7.holds Tryd.pinned (.plain (OpenSpec.upto lookRootsSpec)) lookRootsUptoCard
end Rows
end Go.Proofs.YtjphchcjneofhaaDoor
