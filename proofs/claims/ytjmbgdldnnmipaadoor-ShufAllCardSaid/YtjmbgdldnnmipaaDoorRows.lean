/-
  NARROWER THAN 'FOR EVERY INPUT', by the rows' own cells (each row's printed sentence says how): MerkleHolds: laid · MerkleHalves: laid · MerklePacks: laid · MerkleTrees: laid · MerkleMixes: laid · MerkleBranches: laid · ShufLists: laid · ShufAll: laid · ShufEdges: laid · ShufAlike: laid · ShufPlaces: laid.
  DERIVED. THE GIVEN ROWS OF THIS SEAT. 11 by the template 'for every input the law returns true; each argument reads behind the call as it read before'; 0 by the template 'total and deterministic' (their statements: YtjmbgdldnnmipaaDoorTotals.lean).
  GIVEN WITH THE SEED: the statements are not yours to turn. If you find one false, say at which input.
  Laid BY PROGRAM, IN A SANDBOX (cutbox-rows.mjs): the forced cells as the released guide's own fill.sh prints them over the translation d96f4b0f05943200… (all of the seat's roots in one cut). By AI agents, Wed Nov 11 2026. No macro, syntax, notation, axiom, sorry.
-/
import Derived.Test.YtjmbgdldnnmipaaDoorChecked
import GoSem.Claim
import GoSem.ClaimJoined
import GoSem.ClaimMapViews
import Derived.JoinedTies
import Derived.KernelRfl
namespace Go.Proofs.YtjmbgdldnnmipaaDoor
/- THE CELL 'sum', in the pinned program and in every row, IS THE sha256 OF THE DUMP (.gsa) THAT YtjmbgdldnnmipaaDoorProg.lean LOADS. Nothing in Lean hashes anything: it is a label: what it is worth is what the hold of that sum in a sandbox is worth. -/
noncomputable def Tryd.pinned : Pinned := { name := "ytjmbgdldnnmipaadoor", sum := "d96f4b0f05943200e60e42ccbc10872af1041c6ff5cd91ac97acbdf913d06de3", checked := Tryd.checked }
namespace Rows
def none {H : Type} : Left H := { results := [], args := [] }

/- WHAT THE LISTED PACKAGE-LEVEL VARIABLES READ AS WHEN THE CALL BEGINS. Each datum BY PROGRAM (the guide's laid-datum.mjs) off the statement by which the dump's own 'gosem.cut.vars' lays the variable. In a bare row this is a premise. The card (YtjmbgdldnnmipaaDoorCards.lean) ties it to the program's text. -/
def laid_pharos_pharosref02_constants {H : Type} : DataW H := .agg [.lit (.int .u32 1116352408), .lit (.int .u32 1899447441), .lit (.int .u32 3049323471), .lit (.int .u32 3921009573), .lit (.int .u32 961987163), .lit (.int .u32 1508970993), .lit (.int .u32 2453635748), .lit (.int .u32 2870763221), .lit (.int .u32 3624381080), .lit (.int .u32 310598401), .lit (.int .u32 607225278), .lit (.int .u32 1426881987), .lit (.int .u32 1925078388), .lit (.int .u32 2162078206), .lit (.int .u32 2614888103), .lit (.int .u32 3248222580), .lit (.int .u32 3835390401), .lit (.int .u32 4022224774), .lit (.int .u32 264347078), .lit (.int .u32 604807628), .lit (.int .u32 770255983), .lit (.int .u32 1249150122), .lit (.int .u32 1555081692), .lit (.int .u32 1996064986), .lit (.int .u32 2554220882), .lit (.int .u32 2821834349), .lit (.int .u32 2952996808), .lit (.int .u32 3210313671), .lit (.int .u32 3336571891), .lit (.int .u32 3584528711), .lit (.int .u32 113926993), .lit (.int .u32 338241895), .lit (.int .u32 666307205), .lit (.int .u32 773529912), .lit (.int .u32 1294757372), .lit (.int .u32 1396182291), .lit (.int .u32 1695183700), .lit (.int .u32 1986661051), .lit (.int .u32 2177026350), .lit (.int .u32 2456956037), .lit (.int .u32 2730485921), .lit (.int .u32 2820302411), .lit (.int .u32 3259730800), .lit (.int .u32 3345764771), .lit (.int .u32 3516065817), .lit (.int .u32 3600352804), .lit (.int .u32 4094571909), .lit (.int .u32 275423344), .lit (.int .u32 430227734), .lit (.int .u32 506948616), .lit (.int .u32 659060556), .lit (.int .u32 883997877), .lit (.int .u32 958139571), .lit (.int .u32 1322822218), .lit (.int .u32 1537002063), .lit (.int .u32 1747873779), .lit (.int .u32 1955562222), .lit (.int .u32 2024104815), .lit (.int .u32 2227730452), .lit (.int .u32 2361852424), .lit (.int .u32 2428436474), .lit (.int .u32 2756734187), .lit (.int .u32 3204031479), .lit (.int .u32 3329325298)]
def laid_pharos_sha_start {H : Type} : DataW H := .agg [.lit (.int .u32 1779033703), .lit (.int .u32 3144134277), .lit (.int .u32 1013904242), .lit (.int .u32 2773480762), .lit (.int .u32 1359893119), .lit (.int .u32 2600822924), .lit (.int .u32 528734635), .lit (.int .u32 1541459225)]
def laid_pharos_sha_round {H : Type} : DataW H := .agg [.lit (.int .u32 1116352408), .lit (.int .u32 1899447441), .lit (.int .u32 3049323471), .lit (.int .u32 3921009573), .lit (.int .u32 961987163), .lit (.int .u32 1508970993), .lit (.int .u32 2453635748), .lit (.int .u32 2870763221), .lit (.int .u32 3624381080), .lit (.int .u32 310598401), .lit (.int .u32 607225278), .lit (.int .u32 1426881987), .lit (.int .u32 1925078388), .lit (.int .u32 2162078206), .lit (.int .u32 2614888103), .lit (.int .u32 3248222580), .lit (.int .u32 3835390401), .lit (.int .u32 4022224774), .lit (.int .u32 264347078), .lit (.int .u32 604807628), .lit (.int .u32 770255983), .lit (.int .u32 1249150122), .lit (.int .u32 1555081692), .lit (.int .u32 1996064986), .lit (.int .u32 2554220882), .lit (.int .u32 2821834349), .lit (.int .u32 2952996808), .lit (.int .u32 3210313671), .lit (.int .u32 3336571891), .lit (.int .u32 3584528711), .lit (.int .u32 113926993), .lit (.int .u32 338241895), .lit (.int .u32 666307205), .lit (.int .u32 773529912), .lit (.int .u32 1294757372), .lit (.int .u32 1396182291), .lit (.int .u32 1695183700), .lit (.int .u32 1986661051), .lit (.int .u32 2177026350), .lit (.int .u32 2456956037), .lit (.int .u32 2730485921), .lit (.int .u32 2820302411), .lit (.int .u32 3259730800), .lit (.int .u32 3345764771), .lit (.int .u32 3516065817), .lit (.int .u32 3600352804), .lit (.int .u32 4094571909), .lit (.int .u32 275423344), .lit (.int .u32 430227734), .lit (.int .u32 506948616), .lit (.int .u32 659060556), .lit (.int .u32 883997877), .lit (.int .u32 958139571), .lit (.int .u32 1322822218), .lit (.int .u32 1537002063), .lit (.int .u32 1747873779), .lit (.int .u32 1955562222), .lit (.int .u32 2024104815), .lit (.int .u32 2227730452), .lit (.int .u32 2361852424), .lit (.int .u32 2428436474), .lit (.int .u32 2756734187), .lit (.int .u32 3204031479), .lit (.int .u32 3329325298)]

/-- 'pharoslaw05.MerkleHolds': WHATEVER THE INPUT: true; the input reads as it did. -/
def merkleHoldsSpec : ChangeSpec := { name := "merkleHolds", fn := fun _ => fun
  | [d1, d2, d3, d4] => { results := [.lit (.bool true)], args := [d1, d2, d3, d4] }
  | _ => none }
def merkleHoldsRow : OpenClaim := { program := "ytjmbgdldnnmipaadoor", sum := "d96f4b0f05943200e60e42ccbc10872af1041c6ff5cd91ac97acbdf913d06de3", func := "pharos/pharoslaw05.MerkleHolds", spec := "merkleHolds", named := ["pharos/sha.start", "pharos/sha.round", "pharos/pharosref02.constants"], apart := false, laid := [("pharos/pharosref02.constants", laid_pharos_pharosref02_constants), ("pharos/sha.start", laid_pharos_sha_start), ("pharos/sha.round", laid_pharos_sha_round)] }
def MerkleHoldsSaid : Prop := merkleHoldsRow.holds Tryd.pinned (OpenSpec.ofChange merkleHoldsSpec)

/-- ITS FALSE NEIGHBOUR: 'it returns false'. Refute it at one input. -/
def merkleHoldsWrong : ChangeSpec := { name := "merkleHolds", fn := fun _ => fun
  | [d1, d2, d3, d4] => { results := [.lit (.bool false)], args := [d1, d2, d3, d4] }
  | _ => none }
def MerkleHoldsWrongFalsely : Prop := merkleHoldsRow.holds Tryd.pinned (OpenSpec.ofChange merkleHoldsWrong)

/-- 'pharoslaw05.MerkleHalves': WHATEVER THE INPUT: true; the input reads as it did. -/
def merkleHalvesSpec : ChangeSpec := { name := "merkleHalves", fn := fun _ => fun
  | [d1, d2] => { results := [.lit (.bool true)], args := [d1, d2] }
  | _ => none }
def merkleHalvesRow : OpenClaim := { program := "ytjmbgdldnnmipaadoor", sum := "d96f4b0f05943200e60e42ccbc10872af1041c6ff5cd91ac97acbdf913d06de3", func := "pharos/pharoslaw05.MerkleHalves", spec := "merkleHalves", named := ["pharos/sha.start", "pharos/sha.round"], apart := false, laid := [("pharos/sha.start", laid_pharos_sha_start), ("pharos/sha.round", laid_pharos_sha_round)] }
def MerkleHalvesSaid : Prop := merkleHalvesRow.holds Tryd.pinned (OpenSpec.ofChange merkleHalvesSpec)

/-- ITS FALSE NEIGHBOUR: 'it returns false'. Refute it at one input. -/
def merkleHalvesWrong : ChangeSpec := { name := "merkleHalves", fn := fun _ => fun
  | [d1, d2] => { results := [.lit (.bool false)], args := [d1, d2] }
  | _ => none }
def MerkleHalvesWrongFalsely : Prop := merkleHalvesRow.holds Tryd.pinned (OpenSpec.ofChange merkleHalvesWrong)

/-- 'pharoslaw05.MerklePacks': WHATEVER THE INPUT: true; the input reads as it did. -/
def merklePacksSpec : ChangeSpec := { name := "merklePacks", fn := fun _ => fun
  | [d1, d2] => { results := [.lit (.bool true)], args := [d1, d2] }
  | _ => none }
def merklePacksRow : OpenClaim := { program := "ytjmbgdldnnmipaadoor", sum := "d96f4b0f05943200e60e42ccbc10872af1041c6ff5cd91ac97acbdf913d06de3", func := "pharos/pharoslaw05.MerklePacks", spec := "merklePacks", named := ["pharos/sha.start", "pharos/sha.round"], apart := false, laid := [("pharos/sha.start", laid_pharos_sha_start), ("pharos/sha.round", laid_pharos_sha_round)] }
def MerklePacksSaid : Prop := merklePacksRow.holds Tryd.pinned (OpenSpec.ofChange merklePacksSpec)

/-- ITS FALSE NEIGHBOUR: 'it returns false'. Refute it at one input. -/
def merklePacksWrong : ChangeSpec := { name := "merklePacks", fn := fun _ => fun
  | [d1, d2] => { results := [.lit (.bool false)], args := [d1, d2] }
  | _ => none }
def MerklePacksWrongFalsely : Prop := merklePacksRow.holds Tryd.pinned (OpenSpec.ofChange merklePacksWrong)

/-- 'pharoslaw05.MerkleTrees': WHATEVER THE INPUT: true; the input reads as it did. -/
def merkleTreesSpec : ChangeSpec := { name := "merkleTrees", fn := fun _ => fun
  | [d1, d2, d3, d4, d5] => { results := [.lit (.bool true)], args := [d1, d2, d3, d4, d5] }
  | _ => none }
def merkleTreesRow : OpenClaim := { program := "ytjmbgdldnnmipaadoor", sum := "d96f4b0f05943200e60e42ccbc10872af1041c6ff5cd91ac97acbdf913d06de3", func := "pharos/pharoslaw05.MerkleTrees", spec := "merkleTrees", recurses := true, named := ["pharos/sha.start", "pharos/sha.round", "pharos/pharosref02.constants"], apart := false, laid := [("pharos/pharosref02.constants", laid_pharos_pharosref02_constants), ("pharos/sha.start", laid_pharos_sha_start), ("pharos/sha.round", laid_pharos_sha_round)] }
def MerkleTreesSaid : Prop := merkleTreesRow.holds Tryd.pinned (OpenSpec.ofChange merkleTreesSpec)

/-- ITS FALSE NEIGHBOUR: 'it returns false'. Refute it at one input. -/
def merkleTreesWrong : ChangeSpec := { name := "merkleTrees", fn := fun _ => fun
  | [d1, d2, d3, d4, d5] => { results := [.lit (.bool false)], args := [d1, d2, d3, d4, d5] }
  | _ => none }
def MerkleTreesWrongFalsely : Prop := merkleTreesRow.holds Tryd.pinned (OpenSpec.ofChange merkleTreesWrong)

/-- 'pharoslaw05.MerkleMixes': WHATEVER THE INPUT: true; the input reads as it did. -/
def merkleMixesSpec : ChangeSpec := { name := "merkleMixes", fn := fun _ => fun
  | [d1, d2] => { results := [.lit (.bool true)], args := [d1, d2] }
  | _ => none }
def merkleMixesRow : OpenClaim := { program := "ytjmbgdldnnmipaadoor", sum := "d96f4b0f05943200e60e42ccbc10872af1041c6ff5cd91ac97acbdf913d06de3", func := "pharos/pharoslaw05.MerkleMixes", spec := "merkleMixes", named := ["pharos/sha.start", "pharos/sha.round"], apart := false, laid := [("pharos/sha.start", laid_pharos_sha_start), ("pharos/sha.round", laid_pharos_sha_round)] }
def MerkleMixesSaid : Prop := merkleMixesRow.holds Tryd.pinned (OpenSpec.ofChange merkleMixesSpec)

/-- ITS FALSE NEIGHBOUR: 'it returns false'. Refute it at one input. -/
def merkleMixesWrong : ChangeSpec := { name := "merkleMixes", fn := fun _ => fun
  | [d1, d2] => { results := [.lit (.bool false)], args := [d1, d2] }
  | _ => none }
def MerkleMixesWrongFalsely : Prop := merkleMixesRow.holds Tryd.pinned (OpenSpec.ofChange merkleMixesWrong)

/-- 'pharoslaw05.MerkleBranches': WHATEVER THE INPUT: true; the input reads as it did. -/
def merkleBranchesSpec : ChangeSpec := { name := "merkleBranches", fn := fun _ => fun
  | [d1, d2, d3, d4, d5] => { results := [.lit (.bool true)], args := [d1, d2, d3, d4, d5] }
  | _ => none }
def merkleBranchesRow : OpenClaim := { program := "ytjmbgdldnnmipaadoor", sum := "d96f4b0f05943200e60e42ccbc10872af1041c6ff5cd91ac97acbdf913d06de3", func := "pharos/pharoslaw05.MerkleBranches", spec := "merkleBranches", recurses := true, named := ["pharos/sha.start", "pharos/sha.round", "pharos/pharosref02.constants"], apart := false, laid := [("pharos/pharosref02.constants", laid_pharos_pharosref02_constants), ("pharos/sha.start", laid_pharos_sha_start), ("pharos/sha.round", laid_pharos_sha_round)] }
def MerkleBranchesSaid : Prop := merkleBranchesRow.holds Tryd.pinned (OpenSpec.ofChange merkleBranchesSpec)

/-- ITS FALSE NEIGHBOUR: 'it returns false'. Refute it at one input. -/
def merkleBranchesWrong : ChangeSpec := { name := "merkleBranches", fn := fun _ => fun
  | [d1, d2, d3, d4, d5] => { results := [.lit (.bool false)], args := [d1, d2, d3, d4, d5] }
  | _ => none }
def MerkleBranchesWrongFalsely : Prop := merkleBranchesRow.holds Tryd.pinned (OpenSpec.ofChange merkleBranchesWrong)

/-- 'pharoslaw12.ShufLists': WHATEVER THE INPUT: true; the input reads as it did. -/
def shufListsSpec : ChangeSpec := { name := "shufLists", fn := fun _ => fun
  | [d1, d2] => { results := [.lit (.bool true)], args := [d1, d2] }
  | _ => none }
def shufListsRow : OpenClaim := { program := "ytjmbgdldnnmipaadoor", sum := "d96f4b0f05943200e60e42ccbc10872af1041c6ff5cd91ac97acbdf913d06de3", func := "pharos/pharoslaw12.ShufLists", spec := "shufLists", named := ["pharos/sha.start", "pharos/sha.round", "pharos/pharosref02.constants"], apart := false, laid := [("pharos/pharosref02.constants", laid_pharos_pharosref02_constants), ("pharos/sha.start", laid_pharos_sha_start), ("pharos/sha.round", laid_pharos_sha_round)] }
def ShufListsSaid : Prop := shufListsRow.holds Tryd.pinned (OpenSpec.ofChange shufListsSpec)

/-- ITS FALSE NEIGHBOUR: 'it returns false'. Refute it at one input. -/
def shufListsWrong : ChangeSpec := { name := "shufLists", fn := fun _ => fun
  | [d1, d2] => { results := [.lit (.bool false)], args := [d1, d2] }
  | _ => none }
def ShufListsWrongFalsely : Prop := shufListsRow.holds Tryd.pinned (OpenSpec.ofChange shufListsWrong)

/-- 'pharoslaw12.ShufAll': WHATEVER THE INPUT: true; the input reads as it did. -/
def shufAllSpec : ChangeSpec := { name := "shufAll", fn := fun _ => fun
  | [d1, d2] => { results := [.lit (.bool true)], args := [d1, d2] }
  | _ => none }
def shufAllRow : OpenClaim := { program := "ytjmbgdldnnmipaadoor", sum := "d96f4b0f05943200e60e42ccbc10872af1041c6ff5cd91ac97acbdf913d06de3", func := "pharos/pharoslaw12.ShufAll", spec := "shufAll", named := ["pharos/sha.start", "pharos/sha.round"], apart := false, laid := [("pharos/sha.start", laid_pharos_sha_start), ("pharos/sha.round", laid_pharos_sha_round)] }
def ShufAllSaid : Prop := shufAllRow.holds Tryd.pinned (OpenSpec.ofChange shufAllSpec)

/-- ITS FALSE NEIGHBOUR: 'it returns false'. Refute it at one input. -/
def shufAllWrong : ChangeSpec := { name := "shufAll", fn := fun _ => fun
  | [d1, d2] => { results := [.lit (.bool false)], args := [d1, d2] }
  | _ => none }
def ShufAllWrongFalsely : Prop := shufAllRow.holds Tryd.pinned (OpenSpec.ofChange shufAllWrong)

/-- 'pharoslaw12.ShufEdges': WHATEVER THE INPUT: true; the input reads as it did. -/
def shufEdgesSpec : ChangeSpec := { name := "shufEdges", fn := fun _ => fun
  | [d1, d2, d3] => { results := [.lit (.bool true)], args := [d1, d2, d3] }
  | _ => none }
def shufEdgesRow : OpenClaim := { program := "ytjmbgdldnnmipaadoor", sum := "d96f4b0f05943200e60e42ccbc10872af1041c6ff5cd91ac97acbdf913d06de3", func := "pharos/pharoslaw12.ShufEdges", spec := "shufEdges", named := ["pharos/sha.start", "pharos/sha.round", "pharos/pharosref02.constants"], apart := false, laid := [("pharos/pharosref02.constants", laid_pharos_pharosref02_constants), ("pharos/sha.start", laid_pharos_sha_start), ("pharos/sha.round", laid_pharos_sha_round)] }
def ShufEdgesSaid : Prop := shufEdgesRow.holds Tryd.pinned (OpenSpec.ofChange shufEdgesSpec)

/-- ITS FALSE NEIGHBOUR: 'it returns false'. Refute it at one input. -/
def shufEdgesWrong : ChangeSpec := { name := "shufEdges", fn := fun _ => fun
  | [d1, d2, d3] => { results := [.lit (.bool false)], args := [d1, d2, d3] }
  | _ => none }
def ShufEdgesWrongFalsely : Prop := shufEdgesRow.holds Tryd.pinned (OpenSpec.ofChange shufEdgesWrong)

/-- 'pharoslaw12.ShufAlike': WHATEVER THE INPUT: true; the input reads as it did. -/
def shufAlikeSpec : ChangeSpec := { name := "shufAlike", fn := fun _ => fun
  | [d1, d2, d3] => { results := [.lit (.bool true)], args := [d1, d2, d3] }
  | _ => none }
def shufAlikeRow : OpenClaim := { program := "ytjmbgdldnnmipaadoor", sum := "d96f4b0f05943200e60e42ccbc10872af1041c6ff5cd91ac97acbdf913d06de3", func := "pharos/pharoslaw12.ShufAlike", spec := "shufAlike", named := ["pharos/sha.start", "pharos/sha.round"], apart := false, laid := [("pharos/sha.start", laid_pharos_sha_start), ("pharos/sha.round", laid_pharos_sha_round)] }
def ShufAlikeSaid : Prop := shufAlikeRow.holds Tryd.pinned (OpenSpec.ofChange shufAlikeSpec)

/-- ITS FALSE NEIGHBOUR: 'it returns false'. Refute it at one input. -/
def shufAlikeWrong : ChangeSpec := { name := "shufAlike", fn := fun _ => fun
  | [d1, d2, d3] => { results := [.lit (.bool false)], args := [d1, d2, d3] }
  | _ => none }
def ShufAlikeWrongFalsely : Prop := shufAlikeRow.holds Tryd.pinned (OpenSpec.ofChange shufAlikeWrong)

/-- 'pharoslaw12.ShufPlaces': WHATEVER THE INPUT: true; the input reads as it did. -/
def shufPlacesSpec : ChangeSpec := { name := "shufPlaces", fn := fun _ => fun
  | [d1, d2, d3] => { results := [.lit (.bool true)], args := [d1, d2, d3] }
  | _ => none }
def shufPlacesRow : OpenClaim := { program := "ytjmbgdldnnmipaadoor", sum := "d96f4b0f05943200e60e42ccbc10872af1041c6ff5cd91ac97acbdf913d06de3", func := "pharos/pharoslaw12.ShufPlaces", spec := "shufPlaces", named := ["pharos/sha.start", "pharos/sha.round", "pharos/pharosref02.constants"], apart := false, laid := [("pharos/pharosref02.constants", laid_pharos_pharosref02_constants), ("pharos/sha.start", laid_pharos_sha_start), ("pharos/sha.round", laid_pharos_sha_round)] }
def ShufPlacesSaid : Prop := shufPlacesRow.holds Tryd.pinned (OpenSpec.ofChange shufPlacesSpec)

/-- ITS FALSE NEIGHBOUR: 'it returns false'. Refute it at one input. -/
def shufPlacesWrong : ChangeSpec := { name := "shufPlaces", fn := fun _ => fun
  | [d1, d2, d3] => { results := [.lit (.bool false)], args := [d1, d2, d3] }
  | _ => none }
def ShufPlacesWrongFalsely : Prop := shufPlacesRow.holds Tryd.pinned (OpenSpec.ofChange shufPlacesWrong)

/- THE SECOND FORM. 'bulk': how many values and letters a reading holds, each counted each time it is reached (what is shared counts as often as it is met; a slice's spare places count too). A statement '..UptoSaid' is the law's where the arguments, and the package variables that the reading takes, are together of bulk at most 1048576: NARROWER than '..Said'. Prove '..Said' where nothing that the law and all that it calls make is longer than what came in: it says more and counts as full. Else prove '..UptoSaid'. A law counts once. -/
mutual
def uptoBulk {H : Type} : DataW H → Nat
  | .lit (.string bytes) => bytes.length + 1
  | .lit _ => 1
  | .nil => 1
  | .ptr d => uptoBulk d + 1
  | .slice elems spare => uptoBulkAll elems + uptoBulkAll spare + 1
  | .agg parts => uptoBulkAll parts + 1
  | .iface _ d => uptoBulk d + 1
  | .map entries => uptoBulkEntries entries + 1
  | .held _ => 1
def uptoBulkAll {H : Type} : List (DataW H) → Nat
  | [] => 0
  | d :: r => uptoBulk d + uptoBulkAll r
def uptoBulkEntries {H : Type} : List (Lit × DataW H) → Nat
  | [] => 0
  | x :: r => uptoBulkEntry x + uptoBulkEntries r
def uptoBulkEntry {H : Type} : Lit × DataW H → Nat
  | (.string bytes, d) => bytes.length + uptoBulk d + 1
  | (_, d) => uptoBulk d + 1
 end
def uptoSmall : (H : Type) → List (DataW H) → Bool := fun _ ds => decide (uptoBulkAll ds ≤ 1048576)
def OpenSpec.upto (s : _root_.Go.ChangeSpec) : _root_.Go.OpenSpec := { _root_.Go.OpenSpec.ofChange s with cond := some uptoSmall }

/-- 'pharoslaw05.MerkleHolds', WHERE WHAT IT READS IS OF BULK AT MOST 1048576: true; the input reads as it did. -/
def merkleHoldsUptoRow : OpenClaim := { program := "ytjmbgdldnnmipaadoor", sum := "d96f4b0f05943200e60e42ccbc10872af1041c6ff5cd91ac97acbdf913d06de3", func := "pharos/pharoslaw05.MerkleHolds", spec := "merkleHolds", named := ["pharos/sha.start", "pharos/sha.round", "pharos/pharosref02.constants"], apart := false, laid := [("pharos/pharosref02.constants", laid_pharos_pharosref02_constants), ("pharos/sha.start", laid_pharos_sha_start), ("pharos/sha.round", laid_pharos_sha_round)], narrowed := true }
def MerkleHoldsUptoSaid : Prop := merkleHoldsUptoRow.holds Tryd.pinned (OpenSpec.upto merkleHoldsSpec)

/-- 'pharoslaw05.MerkleHalves', WHERE WHAT IT READS IS OF BULK AT MOST 1048576: true; the input reads as it did. -/
def merkleHalvesUptoRow : OpenClaim := { program := "ytjmbgdldnnmipaadoor", sum := "d96f4b0f05943200e60e42ccbc10872af1041c6ff5cd91ac97acbdf913d06de3", func := "pharos/pharoslaw05.MerkleHalves", spec := "merkleHalves", named := ["pharos/sha.start", "pharos/sha.round"], apart := false, laid := [("pharos/sha.start", laid_pharos_sha_start), ("pharos/sha.round", laid_pharos_sha_round)], narrowed := true }
def MerkleHalvesUptoSaid : Prop := merkleHalvesUptoRow.holds Tryd.pinned (OpenSpec.upto merkleHalvesSpec)

/-- 'pharoslaw05.MerklePacks', WHERE WHAT IT READS IS OF BULK AT MOST 1048576: true; the input reads as it did. -/
def merklePacksUptoRow : OpenClaim := { program := "ytjmbgdldnnmipaadoor", sum := "d96f4b0f05943200e60e42ccbc10872af1041c6ff5cd91ac97acbdf913d06de3", func := "pharos/pharoslaw05.MerklePacks", spec := "merklePacks", named := ["pharos/sha.start", "pharos/sha.round"], apart := false, laid := [("pharos/sha.start", laid_pharos_sha_start), ("pharos/sha.round", laid_pharos_sha_round)], narrowed := true }
def MerklePacksUptoSaid : Prop := merklePacksUptoRow.holds Tryd.pinned (OpenSpec.upto merklePacksSpec)

/-- 'pharoslaw05.MerkleTrees', WHERE WHAT IT READS IS OF BULK AT MOST 1048576: true; the input reads as it did. -/
def merkleTreesUptoRow : OpenClaim := { program := "ytjmbgdldnnmipaadoor", sum := "d96f4b0f05943200e60e42ccbc10872af1041c6ff5cd91ac97acbdf913d06de3", func := "pharos/pharoslaw05.MerkleTrees", spec := "merkleTrees", recurses := true, named := ["pharos/sha.start", "pharos/sha.round", "pharos/pharosref02.constants"], apart := false, laid := [("pharos/pharosref02.constants", laid_pharos_pharosref02_constants), ("pharos/sha.start", laid_pharos_sha_start), ("pharos/sha.round", laid_pharos_sha_round)], narrowed := true }
def MerkleTreesUptoSaid : Prop := merkleTreesUptoRow.holds Tryd.pinned (OpenSpec.upto merkleTreesSpec)

/-- 'pharoslaw05.MerkleMixes', WHERE WHAT IT READS IS OF BULK AT MOST 1048576: true; the input reads as it did. -/
def merkleMixesUptoRow : OpenClaim := { program := "ytjmbgdldnnmipaadoor", sum := "d96f4b0f05943200e60e42ccbc10872af1041c6ff5cd91ac97acbdf913d06de3", func := "pharos/pharoslaw05.MerkleMixes", spec := "merkleMixes", named := ["pharos/sha.start", "pharos/sha.round"], apart := false, laid := [("pharos/sha.start", laid_pharos_sha_start), ("pharos/sha.round", laid_pharos_sha_round)], narrowed := true }
def MerkleMixesUptoSaid : Prop := merkleMixesUptoRow.holds Tryd.pinned (OpenSpec.upto merkleMixesSpec)

/-- 'pharoslaw05.MerkleBranches', WHERE WHAT IT READS IS OF BULK AT MOST 1048576: true; the input reads as it did. -/
def merkleBranchesUptoRow : OpenClaim := { program := "ytjmbgdldnnmipaadoor", sum := "d96f4b0f05943200e60e42ccbc10872af1041c6ff5cd91ac97acbdf913d06de3", func := "pharos/pharoslaw05.MerkleBranches", spec := "merkleBranches", recurses := true, named := ["pharos/sha.start", "pharos/sha.round", "pharos/pharosref02.constants"], apart := false, laid := [("pharos/pharosref02.constants", laid_pharos_pharosref02_constants), ("pharos/sha.start", laid_pharos_sha_start), ("pharos/sha.round", laid_pharos_sha_round)], narrowed := true }
def MerkleBranchesUptoSaid : Prop := merkleBranchesUptoRow.holds Tryd.pinned (OpenSpec.upto merkleBranchesSpec)

/-- 'pharoslaw12.ShufLists', WHERE WHAT IT READS IS OF BULK AT MOST 1048576: true; the input reads as it did. -/
def shufListsUptoRow : OpenClaim := { program := "ytjmbgdldnnmipaadoor", sum := "d96f4b0f05943200e60e42ccbc10872af1041c6ff5cd91ac97acbdf913d06de3", func := "pharos/pharoslaw12.ShufLists", spec := "shufLists", named := ["pharos/sha.start", "pharos/sha.round", "pharos/pharosref02.constants"], apart := false, laid := [("pharos/pharosref02.constants", laid_pharos_pharosref02_constants), ("pharos/sha.start", laid_pharos_sha_start), ("pharos/sha.round", laid_pharos_sha_round)], narrowed := true }
def ShufListsUptoSaid : Prop := shufListsUptoRow.holds Tryd.pinned (OpenSpec.upto shufListsSpec)

/-- 'pharoslaw12.ShufAll', WHERE WHAT IT READS IS OF BULK AT MOST 1048576: true; the input reads as it did. -/
def shufAllUptoRow : OpenClaim := { program := "ytjmbgdldnnmipaadoor", sum := "d96f4b0f05943200e60e42ccbc10872af1041c6ff5cd91ac97acbdf913d06de3", func := "pharos/pharoslaw12.ShufAll", spec := "shufAll", named := ["pharos/sha.start", "pharos/sha.round"], apart := false, laid := [("pharos/sha.start", laid_pharos_sha_start), ("pharos/sha.round", laid_pharos_sha_round)], narrowed := true }
def ShufAllUptoSaid : Prop := shufAllUptoRow.holds Tryd.pinned (OpenSpec.upto shufAllSpec)

/-- 'pharoslaw12.ShufEdges', WHERE WHAT IT READS IS OF BULK AT MOST 1048576: true; the input reads as it did. -/
def shufEdgesUptoRow : OpenClaim := { program := "ytjmbgdldnnmipaadoor", sum := "d96f4b0f05943200e60e42ccbc10872af1041c6ff5cd91ac97acbdf913d06de3", func := "pharos/pharoslaw12.ShufEdges", spec := "shufEdges", named := ["pharos/sha.start", "pharos/sha.round", "pharos/pharosref02.constants"], apart := false, laid := [("pharos/pharosref02.constants", laid_pharos_pharosref02_constants), ("pharos/sha.start", laid_pharos_sha_start), ("pharos/sha.round", laid_pharos_sha_round)], narrowed := true }
def ShufEdgesUptoSaid : Prop := shufEdgesUptoRow.holds Tryd.pinned (OpenSpec.upto shufEdgesSpec)

/-- 'pharoslaw12.ShufAlike', WHERE WHAT IT READS IS OF BULK AT MOST 1048576: true; the input reads as it did. -/
def shufAlikeUptoRow : OpenClaim := { program := "ytjmbgdldnnmipaadoor", sum := "d96f4b0f05943200e60e42ccbc10872af1041c6ff5cd91ac97acbdf913d06de3", func := "pharos/pharoslaw12.ShufAlike", spec := "shufAlike", named := ["pharos/sha.start", "pharos/sha.round"], apart := false, laid := [("pharos/sha.start", laid_pharos_sha_start), ("pharos/sha.round", laid_pharos_sha_round)], narrowed := true }
def ShufAlikeUptoSaid : Prop := shufAlikeUptoRow.holds Tryd.pinned (OpenSpec.upto shufAlikeSpec)

/-- 'pharoslaw12.ShufPlaces', WHERE WHAT IT READS IS OF BULK AT MOST 1048576: true; the input reads as it did. -/
def shufPlacesUptoRow : OpenClaim := { program := "ytjmbgdldnnmipaadoor", sum := "d96f4b0f05943200e60e42ccbc10872af1041c6ff5cd91ac97acbdf913d06de3", func := "pharos/pharoslaw12.ShufPlaces", spec := "shufPlaces", named := ["pharos/sha.start", "pharos/sha.round", "pharos/pharosref02.constants"], apart := false, laid := [("pharos/pharosref02.constants", laid_pharos_pharosref02_constants), ("pharos/sha.start", laid_pharos_sha_start), ("pharos/sha.round", laid_pharos_sha_round)], narrowed := true }
def ShufPlacesUptoSaid : Prop := shufPlacesUptoRow.holds Tryd.pinned (OpenSpec.upto shufPlacesSpec)

end Rows
end Go.Proofs.YtjmbgdldnnmipaaDoor
