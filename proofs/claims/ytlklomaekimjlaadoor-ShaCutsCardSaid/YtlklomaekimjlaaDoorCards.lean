/-
  DERIVED. GIVEN WITH THE SEED: THE CARDS: each row of YtlklomaekimjlaaDoorRows.lean that lists a variable, with what it lists TIED to the program's text (the seventh form; the later family's looks); each row that meets fmt, with fmt's text TOLD by the authors' own Lean function (tested against real Go, not proved from fmt's source: count such statements apart). THE CARD IS WHAT COUNTS. Prove the row's statement (the work); the ties are given (YtlklomaekimjlaaDoorTie.lean); close each card by the builder's one call (the guide's Derived/Test/ToyasCard.lean, 'card_holds'). Laid BY PROGRAM, IN A SANDBOX (cutbox-door.mjs). By AI agents, Wed Nov 11 2026. No macro, syntax, notation, axiom, sorry.
-/
import Derived.Test.YtlklomaekimjlaaDoorRows
import GoSem.ClaimSeven
namespace Go.Proofs.YtlklomaekimjlaaDoor
namespace Rows

/-- THE TIED CARD OF 'pharoslaw02.ShaSums'. -/
def shaSumsCard : Claim7 := { stood := { row := shaSumsRow, standIns := [], harness := (true, "c51fc920dcbd206e47fe11b6339260b4c84f299a7ed9b4406f8fb4374a128304"), looks := false }, kinds := [], alts := [], laidByText := true, laidKinds := [.data, .data, .data], laidTests := true, laidLooks := .later }
def ShaSumsCardSaid : Prop := Claim7.holds Tryd.pinned (.plain (OpenSpec.ofChange shaSumsSpec)) shaSumsCard

/-- THE TIED CARD OF 'pharoslaw02.ShaTwos'. -/
def shaTwosCard : Claim7 := { stood := { row := shaTwosRow, standIns := [], harness := (true, "c51fc920dcbd206e47fe11b6339260b4c84f299a7ed9b4406f8fb4374a128304"), looks := false }, kinds := [], alts := [], laidByText := true, laidKinds := [.data, .data], laidTests := true, laidLooks := .later }
def ShaTwosCardSaid : Prop := Claim7.holds Tryd.pinned (.plain (OpenSpec.ofChange shaTwosSpec)) shaTwosCard

/-- THE TIED CARD OF 'pharoslaw02.ShaLong'. -/
def shaLongCard : Claim7 := { stood := { row := shaLongRow, standIns := [], harness := (true, "c51fc920dcbd206e47fe11b6339260b4c84f299a7ed9b4406f8fb4374a128304"), looks := false }, kinds := [], alts := [], laidByText := true, laidKinds := [.data, .data, .data], laidTests := true, laidLooks := .later }
def ShaLongCardSaid : Prop := Claim7.holds Tryd.pinned (.plain (OpenSpec.ofChange shaLongSpec)) shaLongCard

/-- THE TIED CARD OF 'pharoslaw02.ShaCuts'. -/
def shaCutsCard : Claim7 := { stood := { row := shaCutsRow, standIns := [], harness := (true, "c51fc920dcbd206e47fe11b6339260b4c84f299a7ed9b4406f8fb4374a128304"), looks := false }, kinds := [], alts := [], laidByText := true, laidKinds := [.data, .data], laidTests := true, laidLooks := .later }
def ShaCutsCardSaid : Prop := Claim7.holds Tryd.pinned (.plain (OpenSpec.ofChange shaCutsSpec)) shaCutsCard

/-- THE TIED CARD OF 'pharoslaw02.ShaNone'. -/
def shaNoneCard : Claim7 := { stood := { row := shaNoneRow, standIns := [], harness := (true, "c51fc920dcbd206e47fe11b6339260b4c84f299a7ed9b4406f8fb4374a128304"), looks := false }, kinds := [], alts := [], laidByText := true, laidKinds := [.data, .data], laidTests := true, laidLooks := .later }
def ShaNoneCardSaid : Prop := Claim7.holds Tryd.pinned (.plain (OpenSpec.ofChange shaNoneSpec)) shaNoneCard

/-- THE SECOND FORM's CARD OF 'pharoslaw02.ShaSums'. -/
def shaSumsUptoCard : Claim7 := { stood := { row := shaSumsUptoRow, standIns := [], harness := (true, "c51fc920dcbd206e47fe11b6339260b4c84f299a7ed9b4406f8fb4374a128304"), looks := false }, kinds := [], alts := [], laidByText := true, laidKinds := [.data, .data, .data], laidTests := true, laidLooks := .later }
def ShaSumsUptoCardSaid : Prop := Claim7.holds Tryd.pinned (.plain (OpenSpec.upto shaSumsSpec)) shaSumsUptoCard

/-- THE SECOND FORM's CARD OF 'pharoslaw02.ShaTwos'. -/
def shaTwosUptoCard : Claim7 := { stood := { row := shaTwosUptoRow, standIns := [], harness := (true, "c51fc920dcbd206e47fe11b6339260b4c84f299a7ed9b4406f8fb4374a128304"), looks := false }, kinds := [], alts := [], laidByText := true, laidKinds := [.data, .data], laidTests := true, laidLooks := .later }
def ShaTwosUptoCardSaid : Prop := Claim7.holds Tryd.pinned (.plain (OpenSpec.upto shaTwosSpec)) shaTwosUptoCard

/-- THE SECOND FORM's CARD OF 'pharoslaw02.ShaLong'. -/
def shaLongUptoCard : Claim7 := { stood := { row := shaLongUptoRow, standIns := [], harness := (true, "c51fc920dcbd206e47fe11b6339260b4c84f299a7ed9b4406f8fb4374a128304"), looks := false }, kinds := [], alts := [], laidByText := true, laidKinds := [.data, .data, .data], laidTests := true, laidLooks := .later }
def ShaLongUptoCardSaid : Prop := Claim7.holds Tryd.pinned (.plain (OpenSpec.upto shaLongSpec)) shaLongUptoCard

/-- THE SECOND FORM's CARD OF 'pharoslaw02.ShaCuts'. -/
def shaCutsUptoCard : Claim7 := { stood := { row := shaCutsUptoRow, standIns := [], harness := (true, "c51fc920dcbd206e47fe11b6339260b4c84f299a7ed9b4406f8fb4374a128304"), looks := false }, kinds := [], alts := [], laidByText := true, laidKinds := [.data, .data], laidTests := true, laidLooks := .later }
def ShaCutsUptoCardSaid : Prop := Claim7.holds Tryd.pinned (.plain (OpenSpec.upto shaCutsSpec)) shaCutsUptoCard

/-- THE SECOND FORM's CARD OF 'pharoslaw02.ShaNone'. -/
def shaNoneUptoCard : Claim7 := { stood := { row := shaNoneUptoRow, standIns := [], harness := (true, "c51fc920dcbd206e47fe11b6339260b4c84f299a7ed9b4406f8fb4374a128304"), looks := false }, kinds := [], alts := [], laidByText := true, laidKinds := [.data, .data], laidTests := true, laidLooks := .later }
def ShaNoneUptoCardSaid : Prop := Claim7.holds Tryd.pinned (.plain (OpenSpec.upto shaNoneSpec)) shaNoneUptoCard
end Rows
end Go.Proofs.YtlklomaekimjlaaDoor
