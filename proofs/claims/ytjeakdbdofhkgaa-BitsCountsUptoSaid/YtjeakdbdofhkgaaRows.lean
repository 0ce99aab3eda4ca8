/-
  No cell of these rows narrows 'for every input' (looked for: loops, veiled, ifaces, maps, wideKeys, modest, calm, conditions, laid).
  DERIVED. THE GIVEN ROWS OF THIS SEAT. 4 by the template 'for every input the law returns true; each argument reads behind the call as it read before'; 0 by the template 'total and deterministic' (their statements: YtjeakdbdofhkgaaTotals.lean).
  GIVEN WITH THE SEED: the statements are not yours to turn. If you find one false, say at which input.
  Laid BY PROGRAM, IN A SANDBOX (cutbox-rows.mjs): the forced cells as the released guide's own fill.sh prints them over the translation 74dcfc8b6ec8f99f… (all of the seat's roots in one cut). By AI agents, Wed Nov 11 2026. No macro, syntax, notation, axiom, sorry.
-/
import Derived.Test.YtjeakdbdofhkgaaChecked
import GoSem.Claim
import GoSem.ClaimJoined
import GoSem.ClaimMapViews
import Derived.JoinedTies
import Derived.KernelRfl
namespace Go.Proofs.Ytjeakdbdofhkgaa
/- THE CELL 'sum', in the pinned program and in every row, IS THE sha256 OF THE DUMP (.gsa) THAT YtjeakdbdofhkgaaProg.lean LOADS. Nothing in Lean hashes anything: it is a label: what it is worth is what the hold of that sum in a sandbox is worth. -/
noncomputable def Try.pinned : Pinned := { name := "ytjeakdbdofhkgaa", sum := "74dcfc8b6ec8f99fafda5c3abca68b902e0462ce1858faf41459180eb725ca0b", checked := Try.checked }
namespace Rows
def none {H : Type} : Left H := { results := [], args := [] }

/-- 'pharoslaw04.BitsApart': WHATEVER THE INPUT: true; the input reads as it did. -/
def bitsApartSpec : ChangeSpec := { name := "bitsApart", fn := fun _ => fun
  | [d1, d2] => { results := [.lit (.bool true)], args := [d1, d2] }
  | _ => none }
def bitsApartRow : OpenClaim := { program := "ytjeakdbdofhkgaa", sum := "74dcfc8b6ec8f99fafda5c3abca68b902e0462ce1858faf41459180eb725ca0b", func := "pharos/pharoslaw04.BitsApart", spec := "bitsApart", apart := false }
def BitsApartSaid : Prop := bitsApartRow.holds Try.pinned (OpenSpec.ofChange bitsApartSpec)

/-- ITS FALSE NEIGHBOUR: 'it returns false'. Refute it at one input. -/
def bitsApartWrong : ChangeSpec := { name := "bitsApart", fn := fun _ => fun
  | [d1, d2] => { results := [.lit (.bool false)], args := [d1, d2] }
  | _ => none }
def BitsApartWrongFalsely : Prop := bitsApartRow.holds Try.pinned (OpenSpec.ofChange bitsApartWrong)

/-- 'pharoslaw04.BitsCounts': WHATEVER THE INPUT: true; the input reads as it did. -/
def bitsCountsSpec : ChangeSpec := { name := "bitsCounts", fn := fun _ => fun
  | [d1, d2] => { results := [.lit (.bool true)], args := [d1, d2] }
  | _ => none }
def bitsCountsRow : OpenClaim := { program := "ytjeakdbdofhkgaa", sum := "74dcfc8b6ec8f99fafda5c3abca68b902e0462ce1858faf41459180eb725ca0b", func := "pharos/pharoslaw04.BitsCounts", spec := "bitsCounts", apart := false }
def BitsCountsSaid : Prop := bitsCountsRow.holds Try.pinned (OpenSpec.ofChange bitsCountsSpec)

/-- ITS FALSE NEIGHBOUR: 'it returns false'. Refute it at one input. -/
def bitsCountsWrong : ChangeSpec := { name := "bitsCounts", fn := fun _ => fun
  | [d1, d2] => { results := [.lit (.bool false)], args := [d1, d2] }
  | _ => none }
def BitsCountsWrongFalsely : Prop := bitsCountsRow.holds Try.pinned (OpenSpec.ofChange bitsCountsWrong)

/-- 'pharoslaw04.BitsLay': WHATEVER THE INPUT: true; the input reads as it did. -/
def bitsLaySpec : ChangeSpec := { name := "bitsLay", fn := fun _ => fun
  | [d] => { results := [.lit (.bool true)], args := [d] }
  | _ => none }
def bitsLayRow : OpenClaim := { program := "ytjeakdbdofhkgaa", sum := "74dcfc8b6ec8f99fafda5c3abca68b902e0462ce1858faf41459180eb725ca0b", func := "pharos/pharoslaw04.BitsLay", spec := "bitsLay", apart := false }
def BitsLaySaid : Prop := bitsLayRow.holds Try.pinned (OpenSpec.ofChange bitsLaySpec)

/-- ITS FALSE NEIGHBOUR: 'it returns false'. Refute it at one input. -/
def bitsLayWrong : ChangeSpec := { name := "bitsLay", fn := fun _ => fun
  | [d] => { results := [.lit (.bool false)], args := [d] }
  | _ => none }
def BitsLayWrongFalsely : Prop := bitsLayRow.holds Try.pinned (OpenSpec.ofChange bitsLayWrong)

/-- 'pharoslaw04.BitsRead': WHATEVER THE INPUT: true; the input reads as it did. -/
def bitsReadSpec : ChangeSpec := { name := "bitsRead", fn := fun _ => fun
  | [d1, d2] => { results := [.lit (.bool true)], args := [d1, d2] }
  | _ => none }
def bitsReadRow : OpenClaim := { program := "ytjeakdbdofhkgaa", sum := "74dcfc8b6ec8f99fafda5c3abca68b902e0462ce1858faf41459180eb725ca0b", func := "pharos/pharoslaw04.BitsRead", spec := "bitsRead", apart := false }
def BitsReadSaid : Prop := bitsReadRow.holds Try.pinned (OpenSpec.ofChange bitsReadSpec)

/-- ITS FALSE NEIGHBOUR: 'it returns false'. Refute it at one input. -/
def bitsReadWrong : ChangeSpec := { name := "bitsRead", fn := fun _ => fun
  | [d1, d2] => { results := [.lit (.bool false)], args := [d1, d2] }
  | _ => none }
def BitsReadWrongFalsely : Prop := bitsReadRow.holds Try.pinned (OpenSpec.ofChange bitsReadWrong)

/- THE SECOND FORM. 'bulk': how many values and letters a reading holds, each counted each time it is reached (what is shared counts as often as it is met; a slice's spare places count too). A statement '..UptoSaid' is the law's where the arguments, and the package variables that the reading takes, are together of bulk at most 1048576: NARROWER than '..Said'. Prove '..Said' where nothing that the law and all that it calls make is longer than what came in: it says more and counts as full. Else prove '..UptoSaid'. A law counts once. -/
mutual
def uptoBulk {H : Type} : DataW H → Nat
  | .lit (.string bytes) => bytes.length + 1
  | .lit _ => 1
  | .nil => 1
  | .ptr d => uptoBulk d + 1
  | .slice elems spare => uptoBulkAll elems + uptoBulkAll spare + 1
  | .agg parts => uptoBulkAll parts + 1
  | .iface _ d => uptoBulk d + 1
  | .map entries => uptoBulkEntries entries + 1
  | .held _ => 1
def uptoBulkAll {H : Type} : List (DataW H) → Nat
  | [] => 0
  | d :: r => uptoBulk d + uptoBulkAll r
def uptoBulkEntries {H : Type} : List (Lit × DataW H) → Nat
  | [] => 0
  | x :: r => uptoBulkEntry x + uptoBulkEntries r
def uptoBulkEntry {H : Type} : Lit × DataW H → Nat
  | (.string bytes, d) => bytes.length + uptoBulk d + 1
  | (_, d) => uptoBulk d + 1
 end
def uptoSmall : (H : Type) → List (DataW H) → Bool := fun _ ds => decide (uptoBulkAll ds ≤ 1048576)
def OpenSpec.upto (s : _root_.Go.ChangeSpec) : _root_.Go.OpenSpec := { _root_.Go.OpenSpec.ofChange s with cond := some uptoSmall }

/-- 'pharoslaw04.BitsApart', WHERE WHAT IT READS IS OF BULK AT MOST 1048576: true; the input reads as it did. -/
def bitsApartUptoRow : OpenClaim := { program := "ytjeakdbdofhkgaa", sum := "74dcfc8b6ec8f99fafda5c3abca68b902e0462ce1858faf41459180eb725ca0b", func := "pharos/pharoslaw04.BitsApart", spec := "bitsApart", apart := false, narrowed := true }
def BitsApartUptoSaid : Prop := bitsApartUptoRow.holds Try.pinned (OpenSpec.upto bitsApartSpec)

/-- 'pharoslaw04.BitsCounts', WHERE WHAT IT READS IS OF BULK AT MOST 1048576: true; the input reads as it did. -/
def bitsCountsUptoRow : OpenClaim := { program := "ytjeakdbdofhkgaa", sum := "74dcfc8b6ec8f99fafda5c3abca68b902e0462ce1858faf41459180eb725ca0b", func := "pharos/pharoslaw04.BitsCounts", spec := "bitsCounts", apart := false, narrowed := true }
def BitsCountsUptoSaid : Prop := bitsCountsUptoRow.holds Try.pinned (OpenSpec.upto bitsCountsSpec)

/-- 'pharoslaw04.BitsLay', WHERE WHAT IT READS IS OF BULK AT MOST 1048576: true; the input reads as it did. -/
def bitsLayUptoRow : OpenClaim := { program := "ytjeakdbdofhkgaa", sum := "74dcfc8b6ec8f99fafda5c3abca68b902e0462ce1858faf41459180eb725ca0b", func := "pharos/pharoslaw04.BitsLay", spec := "bitsLay", apart := false, narrowed := true }
def BitsLayUptoSaid : Prop := bitsLayUptoRow.holds Try.pinned (OpenSpec.upto bitsLaySpec)

/-- 'pharoslaw04.BitsRead', WHERE WHAT IT READS IS OF BULK AT MOST 1048576: true; the input reads as it did. -/
def bitsReadUptoRow : OpenClaim := { program := "ytjeakdbdofhkgaa", sum := "74dcfc8b6ec8f99fafda5c3abca68b902e0462ce1858faf41459180eb725ca0b", func := "pharos/pharoslaw04.BitsRead", spec := "bitsRead", apart := false, narrowed := true }
def BitsReadUptoSaid : Prop := bitsReadUptoRow.holds Try.pinned (OpenSpec.upto bitsReadSpec)

end Rows
end Go.Proofs.Ytjeakdbdofhkgaa
