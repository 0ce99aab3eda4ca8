/-
  No cell of these rows narrows 'for every input' (looked for: loops, veiled, ifaces, maps, wideKeys, modest, calm, conditions, laid).
  DERIVED. THE GIVEN ROWS OF THIS SEAT. 3 by the template 'for every input the law returns true; each argument reads behind the call as it read before'; 0 by the template 'total and deterministic' (their statements: YtjphchcjneofhaaTotals.lean).
  GIVEN WITH THE SEED: the statements are not yours to turn. If you find one false, say at which input.
  Laid BY PROGRAM, IN A SANDBOX (cutbox-rows.mjs): the forced cells as the released guide's own fill.sh prints them over the translation 5dc0362c0ed5ebc7… (all of the seat's roots in one cut). By AI agents, Wed Nov 11 2026. No macro, syntax, notation, axiom, sorry.
-/
import Derived.Test.YtjphchcjneofhaaChecked
import GoSem.Claim
import GoSem.ClaimJoined
import GoSem.ClaimMapViews
import Derived.JoinedTies
import Derived.KernelRfl
namespace Go.Proofs.Ytjphchcjneofhaa
/- THE CELL 'sum', in the pinned program and in every row, IS THE sha256 OF THE DUMP (.gsa) THAT YtjphchcjneofhaaProg.lean LOADS. Nothing in Lean hashes anything: it is a label: what it is worth is what the hold of that sum in a sandbox is worth. -/
noncomputable def Try.pinned : Pinned := { name := "ytjphchcjneofhaa", sum := "5dc0362c0ed5ebc7987e89d761dd5810f56ef634796065de22cf973c4e68eb4f", checked := Try.checked }
namespace Rows
def none {H : Type} : Left H := { results := [], args := [] }

/-- 'pharoslaw13.LookSums': WHATEVER THE INPUT: true; the input reads as it did. -/
def lookSumsSpec : ChangeSpec := { name := "lookSums", fn := fun _ => fun
  | [d1, d2, d3] => { results := [.lit (.bool true)], args := [d1, d2, d3] }
  | _ => none }
def lookSumsRow : OpenClaim := { program := "ytjphchcjneofhaa", sum := "5dc0362c0ed5ebc7987e89d761dd5810f56ef634796065de22cf973c4e68eb4f", func := "pharos/pharoslaw13.LookSums", spec := "lookSums", apart := false }
def LookSumsSaid : Prop := lookSumsRow.holds Try.pinned (OpenSpec.ofChange lookSumsSpec)

/-- ITS FALSE NEIGHBOUR: 'it returns false'. Refute it at one input. -/
def lookSumsWrong : ChangeSpec := { name := "lookSums", fn := fun _ => fun
  | [d1, d2, d3] => { results := [.lit (.bool false)], args := [d1, d2, d3] }
  | _ => none }
def LookSumsWrongFalsely : Prop := lookSumsRow.holds Try.pinned (OpenSpec.ofChange lookSumsWrong)

/-- 'pharoslaw13.LookParts': WHATEVER THE INPUT: true; the input reads as it did. -/
def lookPartsSpec : ChangeSpec := { name := "lookParts", fn := fun _ => fun
  | [d1, d2, d3, d4] => { results := [.lit (.bool true)], args := [d1, d2, d3, d4] }
  | _ => none }
def lookPartsRow : OpenClaim := { program := "ytjphchcjneofhaa", sum := "5dc0362c0ed5ebc7987e89d761dd5810f56ef634796065de22cf973c4e68eb4f", func := "pharos/pharoslaw13.LookParts", spec := "lookParts", apart := false }
def LookPartsSaid : Prop := lookPartsRow.holds Try.pinned (OpenSpec.ofChange lookPartsSpec)

/-- ITS FALSE NEIGHBOUR: 'it returns false'. Refute it at one input. -/
def lookPartsWrong : ChangeSpec := { name := "lookParts", fn := fun _ => fun
  | [d1, d2, d3, d4] => { results := [.lit (.bool false)], args := [d1, d2, d3, d4] }
  | _ => none }
def LookPartsWrongFalsely : Prop := lookPartsRow.holds Try.pinned (OpenSpec.ofChange lookPartsWrong)

/-- 'pharoslaw13.LookActives': WHATEVER THE INPUT: true; the input reads as it did. -/
def lookActivesSpec : ChangeSpec := { name := "lookActives", fn := fun _ => fun
  | [d1, d2] => { results := [.lit (.bool true)], args := [d1, d2] }
  | _ => none }
def lookActivesRow : OpenClaim := { program := "ytjphchcjneofhaa", sum := "5dc0362c0ed5ebc7987e89d761dd5810f56ef634796065de22cf973c4e68eb4f", func := "pharos/pharoslaw13.LookActives", spec := "lookActives", apart := false }
def LookActivesSaid : Prop := lookActivesRow.holds Try.pinned (OpenSpec.ofChange lookActivesSpec)

/-- ITS FALSE NEIGHBOUR: 'it returns false'. Refute it at one input. -/
def lookActivesWrong : ChangeSpec := { name := "lookActives", fn := fun _ => fun
  | [d1, d2] => { results := [.lit (.bool false)], args := [d1, d2] }
  | _ => none }
def LookActivesWrongFalsely : Prop := lookActivesRow.holds Try.pinned (OpenSpec.ofChange lookActivesWrong)

/- THE SECOND FORM. 'bulk': how many values and letters a reading holds, each counted each time it is reached (what is shared counts as often as it is met; a slice's spare places count too). A statement '..UptoSaid' is the law's where the arguments, and the package variables that the reading takes, are together of bulk at most 1048576: NARROWER than '..Said'. Prove '..Said' where nothing that the law and all that it calls make is longer than what came in: it says more and counts as full. Else prove '..UptoSaid'. A law counts once. -/
mutual
def uptoBulk {H : Type} : DataW H → Nat
  | .lit (.string bytes) => bytes.length + 1
  | .lit _ => 1
  | .nil => 1
  | .ptr d => uptoBulk d + 1
  | .slice elems spare => uptoBulkAll elems + uptoBulkAll spare + 1
  | .agg parts => uptoBulkAll parts + 1
  | .iface _ d => uptoBulk d + 1
  | .map entries => uptoBulkEntries entries + 1
  | .held _ => 1
def uptoBulkAll {H : Type} : List (DataW H) → Nat
  | [] => 0
  | d :: r => uptoBulk d + uptoBulkAll r
def uptoBulkEntries {H : Type} : List (Lit × DataW H) → Nat
  | [] => 0
  | x :: r => uptoBulkEntry x + uptoBulkEntries r
def uptoBulkEntry {H : Type} : Lit × DataW H → Nat
  | (.string bytes, d) => bytes.length + uptoBulk d + 1
  | (_, d) => uptoBulk d + 1
 end
def uptoSmall : (H : Type) → List (DataW H) → Bool := fun _ ds => decide (uptoBulkAll ds ≤ 1048576)
def OpenSpec.upto (s : _root_.Go.ChangeSpec) : _root_.Go.OpenSpec := { _root_.Go.OpenSpec.ofChange s with cond := some uptoSmall }

/-- 'pharoslaw13.LookSums', WHERE WHAT IT READS IS OF BULK AT MOST 1048576: true; the input reads as it did. -/
def lookSumsUptoRow : OpenClaim := { program := "ytjphchcjneofhaa", sum := "5dc0362c0ed5ebc7987e89d761dd5810f56ef634796065de22cf973c4e68eb4f", func := "pharos/pharoslaw13.LookSums", spec := "lookSums", apart := false, narrowed := true }
def LookSumsUptoSaid : Prop := lookSumsUptoRow.holds Try.pinned (OpenSpec.upto lookSumsSpec)

/-- 'pharoslaw13.LookParts', WHERE WHAT IT READS IS OF BULK AT MOST 1048576: true; the input reads as it did. -/
def lookPartsUptoRow : OpenClaim := { program := "ytjphchcjneofhaa", sum := "5dc0362c0ed5ebc7987e89d761dd5810f56ef634796065de22cf973c4e68eb4f", func := "pharos/pharoslaw13.LookParts", spec := "lookParts", apart := false, narrowed := true }
def LookPartsUptoSaid : Prop := lookPartsUptoRow.holds Try.pinned (OpenSpec.upto lookPartsSpec)

/-- 'pharoslaw13.LookActives', WHERE WHAT IT READS IS OF BULK AT MOST 1048576: true; the input reads as it did. -/
def lookActivesUptoRow : OpenClaim := { program := "ytjphchcjneofhaa", sum := "5dc0362c0ed5ebc7987e89d761dd5810f56ef634796065de22cf973c4e68eb4f", func := "pharos/pharoslaw13.LookActives", spec := "lookActives", apart := false, narrowed := true }
def LookActivesUptoSaid : Prop := lookActivesUptoRow.holds Try.pinned (OpenSpec.upto lookActivesSpec)

end Rows
end Go.Proofs.Ytjphchcjneofhaa
