/- Part 17 of what the proof of SignRoots stands on: Laid, ShaLaid. -/
import Derived.Test.YtecgogeebponlaaDoorGSignRoots16
import Derived.Test.YtecgogeebponlaaDoorGSignRoots1
import Derived.Test.YtecgogeebponlaaDoorGSignRoots3
import Derived.WideKeyArr2
import Derived.Lib.LaidTab
import Derived.Deep.DeepHandedRow
import Derived.Test.YtecgogeebponlaaDoorGSignRoots10
import Derived.KernelRfl
/- Arguments that are arrays; package variables that lie as they were laid. -/
namespace Go.Proofs.YtecgogeebponlaaDoor
set_option maxRecDepth 40000
open Go.RowKit Go.ChangeShapes Go.WideShapes Go.ChangeAt
theorem open_arr_ints {H : Type} {enc : TypeId × Value → H} {P : Program} {W : World} {base b0 : Nat} {sp : Nat → Bool} {held : Bool} {r : Reach} {t e : TypeId} {n : Nat} {k : IntKind} {v : Value} {d : DataW H} {ps : List MemPlace}
    (hu : P.underlying t = some (.array n e)) (he : P.underlying e = some (.int k)) (hce : P.cellsOf e = 1) (hct : P.cellsOf t = n) (hval : Value.okWide P W r b0 t v) (hd : DataW.Trod enc P W base sp held t v d ps) :
    ∃ z : Nat → Int, v = .agg (arr n fun i => .int k (z i)) ∧ ∀ i, i < n → (Lit.int k (z i)).wf = true := by
  simp only [Value.okWide, hu] at hval
  obtain ⟨xs, rfl, hn, _⟩ := hval
  obtain ⟨fuel, hf⟩ := hd
  cases fuel with
  | zero => simp [DataW.trod] at hf
  | succ m =>
    rw [DataW.trod_step] at hf
    unfold DataW.trodStep at hf
    simp only [hu, Value.cells] at hf
    rw [if_pos (by simpa using hn)] at hf
    simp only [Option.map_eq_some_iff] at hf
    obtain ⟨ys, hy, e1⟩ := hf
    have hcell : ∀ i, i < n → ∃ z, xs[i]? = some (.int k z) ∧ (Lit.int k z).wf = true := by
      intro i hi
      obtain ⟨b, _, hb⟩ := Lib.mapM_at hy i i (by simp [hi])
      rw [hce] at hb
      obtain ⟨z, h1, _, h3⟩ := DataW.trod_int he hb
      refine ⟨z, ?_, h3⟩
      have hl : (List.take 1 (List.drop (i * 1) xs.toList))[0]? = some (.int k z) := by rw [h1]; rfl
      simpa using hl
    have h2 : ∀ i, ∃ z, i < n → (xs[i]? = some (.int k z) ∧ (Lit.int k z).wf = true) := fun i => by
      by_cases hi : i < n
      · obtain ⟨z, hz⟩ := hcell i hi; exact ⟨z, fun _ => hz⟩
      · exact ⟨0, fun h => absurd h hi⟩
    obtain ⟨z, hz⟩ := Classical.axiomOfChoice h2
    exact ⟨z, by rw [arr_of xs n (fun i => .int k (z i)) (by rw [hn, hct]) (fun i hi => (hz i hi).1)], fun i hi => (hz i hi).2⟩
/-- A [32]byte and its like. -/
theorem open_bytes {H : Type} {enc : TypeId × Value → H} {P : Program} {W : World} {base b0 : Nat} {sp : Nat → Bool} {held : Bool} {r : Reach} {t e : TypeId} {n : Nat} {v : Value} {d : DataW H} {ps : List MemPlace}
    (hu : P.underlying t = some (.array n e)) (he : P.underlying e = some (.int .u8)) (hce : P.cellsOf e = 1) (hct : P.cellsOf t = n) (hval : Value.okWide P W r b0 t v) (hd : DataW.Trod enc P W base sp held t v d ps) :
    ∃ x : Nat → Nat, v = .agg (arr n fun i => .int .u8 ((x i : Nat) : Int)) ∧ ∀ i, x i < 256 := by
  obtain ⟨z, rfl, hw⟩ := open_arr_ints hu he hce hct hval hd
  refine ⟨fun i => if i < n then (z i).toNat else 0, congrArg Value.agg (arr_congr fun i hi => ?_), fun i => ?_⟩
  · have := wf_u8 (hw i hi)
    simp only [if_pos hi, Int.toNat_of_nonneg this.1]
  · show (if i < n then (z i).toNat else 0) < 256
    split
    · rename_i h; have := wf_u8 (hw i h); omega
    · omega

/-- What lies behind the first on the list. -/
theorem laid_tail {P : Program} {W : World} {x : String × DataW Unit} {rest : List (String × DataW Unit)} {ps : List MemPlace} (h : DataW.LaidVars P W (x :: rest) ps) : ∃ q, DataW.LaidVars P W rest q := by
  obtain ⟨g', t', cs, fuel, p, q, _, _, _, _, h1, _⟩ := h
  exact ⟨q, h1⟩
theorem tab_of {P : Program} {W : World} {name : String} {k : IntKind} {zs : List Int} {rest : List (String × DataW Unit)} {g : Nat} {t e : TypeId} {n : Nat} {ps : List MemPlace}
    (hg : P.globalNamed name = some g) (hty : (P.globals[g]?).map (·.type) = some t) (ht : P.underlying t = some (.array n e)) (he : P.underlying e = some (.int k)) (hce : P.cellsOf e = 1) (hct : P.cellsOf t = n)
    (h : DataW.LaidVars P W ((name, Lib.tabData k zs) :: rest) ps) (i : Nat) (hi : i < zs.length) : W.cell? ⟨g, i, none⟩ = some (.int k (zs.getD i 0)) := by
  obtain ⟨g', t', cs, fuel, p, q, hg', ht', hvar, hd, _, _⟩ := h
  obtain rfl := Option.some.inj (hg.symm.trans hg')
  obtain rfl := Option.some.inj (hty.symm.trans ht')
  have hT : Lib.TabIs P W name k zs := by
    unfold Lib.TabIs
    rw [hvar, ← Lib.cells_of_tab ht he hce hct hd]
  exact hT.cell hg i hi
/-- The witness's world: the settled one, block g holding these cells. -/
noncomputable def laidInto (w : World) (g : Nat) (cs : Array Value) : World :=
  { w with heap := w.heap.modify g fun
      | .cells _ t frozen => .cells cs t frozen
      | o => o }
end Go.Proofs.YtecgogeebponlaaDoor
/- The tables of sha, as they were laid. -/
namespace Go.Proofs.YtecgogeebponlaaDoor
set_option maxRecDepth 40000
open Go.RowKit Go.ChangeShapes Go.WideShapes Go.ChangeAt

def zsK : List Int := kList.map fun n : Nat => (n : Int)
def zsH : List Int := hList.map fun n : Nat => (n : Int)
theorem zsK_at : ∀ i, i < 64 → zsK.getD i 0 = ((kw i).toNat : Int) := by decide +kernel
theorem zsH_at : ∀ i, i < 8 → zsH.getD i 0 = ((h0 i).toNat : Int) := by decide +kernel
theorem tab_start {W : World} {rest : List (String × DataW Unit)} {ps : List MemPlace} (h : DataW.LaidVars Tryd.prog W (("pharos/sha.start", Rows.laid_pharos_sha_start) :: rest) ps) : ∀ i, i < 8 → W.cell? ⟨0, i, none⟩ = some (wv (h0 i)) := fun i hi => by
  have h' : DataW.LaidVars Tryd.prog W (("pharos/sha.start", Lib.tabData .u32 zsH) :: rest) ps := h
  have := tab_of (P := Tryd.prog) (g := 0) (t := 91) (e := 90) (n := 8) (by kernel_rfl) (by kernel_rfl) Tryd.underlying91 Tryd.underlying90 (by kernel_rfl) (by kernel_rfl) h' i hi
  rw [this, zsH_at i hi]
theorem tab_round {W : World} {rest : List (String × DataW Unit)} {ps : List MemPlace} (h : DataW.LaidVars Tryd.prog W (("pharos/sha.round", Rows.laid_pharos_sha_round) :: rest) ps) : ∀ i, i < 64 → W.cell? ⟨1, i, none⟩ = some (wv (kw i)) := fun i hi => by
  have h' : DataW.LaidVars Tryd.prog W (("pharos/sha.round", Lib.tabData .u32 zsK) :: rest) ps := h
  have := tab_of (P := Tryd.prog) (g := 1) (t := 105) (e := 90) (n := 64) (by kernel_rfl) (by kernel_rfl) Tryd.underlying105 Tryd.underlying90 (by kernel_rfl) (by kernel_rfl) h' i hi
  rw [this, zsK_at i hi]
theorem tab_constants {W : World} {rest : List (String × DataW Unit)} {ps : List MemPlace} (h : DataW.LaidVars Tryd.prog W (("pharos/pharosref02.constants", Rows.laid_pharos_pharosref02_constants) :: rest) ps) : ∀ i, i < 64 → W.cell? ⟨2, i, none⟩ = some (wv (kw i)) := fun i hi => by
  have h' : DataW.LaidVars Tryd.prog W (("pharos/pharosref02.constants", Lib.tabData .u32 zsK) :: rest) ps := h
  have := tab_of (P := Tryd.prog) (g := 2) (t := 105) (e := 90) (n := 64) (by kernel_rfl) (by kernel_rfl) Tryd.underlying105 Tryd.underlying90 (by kernel_rfl) (by kernel_rfl) h' i hi
  rw [this, zsK_at i hi]
/-- What the witness's world holds. -/
def csK : Array Value := (zsK.map (Value.int .u32)).toArray
def csH : Array Value := (zsH.map (Value.int .u32)).toArray
end Go.Proofs.YtecgogeebponlaaDoor
