/- The tables of sha, as they were laid. -/
import Derived.Test.YtecgogeebponlaaDoorLaid
import Derived.Test.YtecgogeebponlaaDoorShaAll
import Derived.KernelRfl
namespace Go.Proofs.YtecgogeebponlaaDoor
set_option maxRecDepth 40000
open Go.RowKit Go.ChangeShapes Go.WideShapes Go.ChangeAt

def zsK : List Int := kList.map fun n : Nat => (n : Int)
def zsH : List Int := hList.map fun n : Nat => (n : Int)
theorem zsK_at : ∀ i, i < 64 → zsK.getD i 0 = ((kw i).toNat : Int) := by decide +kernel
theorem zsH_at : ∀ i, i < 8 → zsH.getD i 0 = ((h0 i).toNat : Int) := by decide +kernel
theorem tab_start {W : World} {rest : List (String × DataW Unit)} {ps : List MemPlace} (h : DataW.LaidVars Tryd.prog W (("pharos/sha.start", Rows.laid_pharos_sha_start) :: rest) ps) : ∀ i, i < 8 → W.cell? ⟨0, i, none⟩ = some (wv (h0 i)) := fun i hi => by
  have h' : DataW.LaidVars Tryd.prog W (("pharos/sha.start", Lib.tabData .u32 zsH) :: rest) ps := h
  have := tab_of (P := Tryd.prog) (g := 0) (t := 91) (e := 90) (n := 8) (by kernel_rfl) (by kernel_rfl) Tryd.underlying91 Tryd.underlying90 (by kernel_rfl) (by kernel_rfl) h' i hi
  rw [this, zsH_at i hi]
theorem tab_round {W : World} {rest : List (String × DataW Unit)} {ps : List MemPlace} (h : DataW.LaidVars Tryd.prog W (("pharos/sha.round", Rows.laid_pharos_sha_round) :: rest) ps) : ∀ i, i < 64 → W.cell? ⟨1, i, none⟩ = some (wv (kw i)) := fun i hi => by
  have h' : DataW.LaidVars Tryd.prog W (("pharos/sha.round", Lib.tabData .u32 zsK) :: rest) ps := h
  have := tab_of (P := Tryd.prog) (g := 1) (t := 105) (e := 90) (n := 64) (by kernel_rfl) (by kernel_rfl) Tryd.underlying105 Tryd.underlying90 (by kernel_rfl) (by kernel_rfl) h' i hi
  rw [this, zsK_at i hi]
theorem tab_constants {W : World} {rest : List (String × DataW Unit)} {ps : List MemPlace} (h : DataW.LaidVars Tryd.prog W (("pharos/pharosref02.constants", Rows.laid_pharos_pharosref02_constants) :: rest) ps) : ∀ i, i < 64 → W.cell? ⟨2, i, none⟩ = some (wv (kw i)) := fun i hi => by
  have h' : DataW.LaidVars Tryd.prog W (("pharos/pharosref02.constants", Lib.tabData .u32 zsK) :: rest) ps := h
  have := tab_of (P := Tryd.prog) (g := 2) (t := 105) (e := 90) (n := 64) (by kernel_rfl) (by kernel_rfl) Tryd.underlying105 Tryd.underlying90 (by kernel_rfl) (by kernel_rfl) h' i hi
  rw [this, zsK_at i hi]
/-- What the witness's world holds. -/
def csK : Array Value := (zsK.map (Value.int .u32)).toArray
def csH : Array Value := (zsH.map (Value.int .u32)).toArray
end Go.Proofs.YtecgogeebponlaaDoor
