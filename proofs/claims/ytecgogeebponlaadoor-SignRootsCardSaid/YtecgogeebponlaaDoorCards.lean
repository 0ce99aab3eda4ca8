/-
  DERIVED. GIVEN WITH THE SEED: THE CARDS: each row of YtecgogeebponlaaDoorRows.lean that lists a variable, with what it lists TIED to the program's text (the seventh form; the later family's looks); each row that meets fmt, with fmt's text TOLD by the authors' own Lean function (tested against real Go, not proved from fmt's source: count such statements apart). THE CARD IS WHAT COUNTS. Prove the row's statement (the work); the ties are given (YtecgogeebponlaaDoorTie.lean); close each card by the builder's one call (the guide's Derived/Test/ToyasCard.lean, 'card_holds'). Laid BY PROGRAM, IN A SANDBOX (cutbox-door.mjs). By AI agents, Wed Nov 11 2026. No macro, syntax, notation, axiom, sorry.
-/
import Derived.Test.YtecgogeebponlaaDoorRows
import GoSem.ClaimSeven
namespace Go.Proofs.YtecgogeebponlaaDoor
namespace Rows

/-- THE TIED CARD OF 'pharoslaw16.SignDomains'. -/
def signDomainsCard : Claim7 := { stood := { row := signDomainsRow, standIns := [], harness := (true, "69d6b4502fc74261bcc3b876918dfb063c5e6f794638682240129e2c72ff1d50"), looks := false }, kinds := [], alts := [], laidByText := true, laidKinds := [.data, .data, .data], laidTests := true, laidLooks := .later }
def SignDomainsCardSaid : Prop := Claim7.holds Tryd.pinned (.plain (OpenSpec.ofChange signDomainsSpec)) signDomainsCard

/-- THE TIED CARD OF 'pharoslaw16.SignRoots'. -/
def signRootsCard : Claim7 := { stood := { row := signRootsRow, standIns := [], harness := (true, "69d6b4502fc74261bcc3b876918dfb063c5e6f794638682240129e2c72ff1d50"), looks := false }, kinds := [], alts := [], laidByText := true, laidKinds := [.data, .data, .data], laidTests := true, laidLooks := .later }
def SignRootsCardSaid : Prop := Claim7.holds Tryd.pinned (.plain (OpenSpec.ofChange signRootsSpec)) signRootsCard

/-- THE TIED CARD OF 'pharoslaw16.SignQuestions'. -/
def signQuestionsCard : Claim7 := { stood := { row := signQuestionsRow, standIns := [], harness := (true, "69d6b4502fc74261bcc3b876918dfb063c5e6f794638682240129e2c72ff1d50"), looks := false }, kinds := [], alts := [], laidByText := true, laidKinds := [.data, .data, .data], laidTests := true, laidLooks := .later }
def SignQuestionsCardSaid : Prop := Claim7.holds Tryd.pinned (.plain (OpenSpec.ofChange signQuestionsSpec)) signQuestionsCard

/-- THE TIED CARD OF 'pharoslaw16.SignBytes'. -/
def signBytesCard : Claim7 := { stood := { row := signBytesRow, standIns := [], harness := (true, "69d6b4502fc74261bcc3b876918dfb063c5e6f794638682240129e2c72ff1d50"), looks := false }, kinds := [], alts := [], laidByText := true, laidKinds := [.data, .data], laidTests := true, laidLooks := .later }
def SignBytesCardSaid : Prop := Claim7.holds Tryd.pinned (.plain (OpenSpec.ofChange signBytesSpec)) signBytesCard

/-- THE SECOND FORM's CARD OF 'pharoslaw16.SignDomains'. -/
def signDomainsUptoCard : Claim7 := { stood := { row := signDomainsUptoRow, standIns := [], harness := (true, "69d6b4502fc74261bcc3b876918dfb063c5e6f794638682240129e2c72ff1d50"), looks := false }, kinds := [], alts := [], laidByText := true, laidKinds := [.data, .data, .data], laidTests := true, laidLooks := .later }
def SignDomainsUptoCardSaid : Prop := Claim7.holds Tryd.pinned (.plain (OpenSpec.upto signDomainsSpec)) signDomainsUptoCard

/-- THE SECOND FORM's CARD OF 'pharoslaw16.SignRoots'. -/
def signRootsUptoCard : Claim7 := { stood := { row := signRootsUptoRow, standIns := [], harness := (true, "69d6b4502fc74261bcc3b876918dfb063c5e6f794638682240129e2c72ff1d50"), looks := false }, kinds := [], alts := [], laidByText := true, laidKinds := [.data, .data, .data], laidTests := true, laidLooks := .later }
def SignRootsUptoCardSaid : Prop := Claim7.holds Tryd.pinned (.plain (OpenSpec.upto signRootsSpec)) signRootsUptoCard

/-- THE SECOND FORM's CARD OF 'pharoslaw16.SignQuestions'. -/
def signQuestionsUptoCard : Claim7 := { stood := { row := signQuestionsUptoRow, standIns := [], harness := (true, "69d6b4502fc74261bcc3b876918dfb063c5e6f794638682240129e2c72ff1d50"), looks := false }, kinds := [], alts := [], laidByText := true, laidKinds := [.data, .data, .data], laidTests := true, laidLooks := .later }
def SignQuestionsUptoCardSaid : Prop := Claim7.holds Tryd.pinned (.plain (OpenSpec.upto signQuestionsSpec)) signQuestionsUptoCard

/-- THE SECOND FORM's CARD OF 'pharoslaw16.SignBytes'. -/
def signBytesUptoCard : Claim7 := { stood := { row := signBytesUptoRow, standIns := [], harness := (true, "69d6b4502fc74261bcc3b876918dfb063c5e6f794638682240129e2c72ff1d50"), looks := false }, kinds := [], alts := [], laidByText := true, laidKinds := [.data, .data], laidTests := true, laidLooks := .later }
def SignBytesUptoCardSaid : Prop := Claim7.holds Tryd.pinned (.plain (OpenSpec.upto signBytesSpec)) signBytesUptoCard
end Rows
end Go.Proofs.YtecgogeebponlaaDoor
