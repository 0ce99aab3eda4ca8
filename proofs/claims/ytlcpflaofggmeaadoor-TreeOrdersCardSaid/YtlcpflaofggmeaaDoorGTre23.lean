/- A part of what the proofs stand on: TreeAwake, Laid, TzLaid, TreeLaw, ListRow, OpsRow, TreeRun, ShaLaid. -/
import Derived.Test.YtlcpflaofggmeaaDoorGTre22
import Derived.Test.YtlcpflaofggmeaaDoorGTre13
import Derived.Test.YtlcpflaofggmeaaDoorGTre5
import Derived.WideKeyArr2
import Derived.Lib.LaidTab
import Derived.Deep.DeepHandedRow
import Derived.KernelRfl
import Derived.Test.YtlcpflaofggmeaaDoorGTre6
/- The program is awake: its fixed answers in chapter 6. (Printed by a program of mine.) -/
namespace Go.Proofs.YtlcpflaofggmeaaDoor
set_option maxRecDepth 40000
open Go.RowKit
/-- A leaf that begins with k. -/
def oneN (k : Nat) : Nat → Nat := fun q => if q = 0 then k else 0
theorem oneN_lt {k : Nat} (h : k < 256) : ∀ q, oneN k q < 256 := fun q => by unfold oneN; split <;> omega
theorem tree_congr (D n : Nat) (x y : Nat → Nat) (hn : n ≤ 2 ^ D) (h : ∀ i, i < n * 32 → x i = y i) : rootV (treeN D n x) = rootV (treeN D n y) := by
  refine congrArg Value.agg (arr_congr fun q hq => ?_)
  simp only [u8v]
  rw [← nod_root D n x hn q hq, ← nod_root D n y hn q hq, nod_congr D n n x y 0 (fun i r _ hr => ?_) q hq]
  unfold padN
  by_cases h1 : i * 32 + r < n * 32
  · rw [if_pos h1, if_pos h1, h _ h1]
  · rw [if_neg h1, if_neg h1]
namespace TreeAwake
theorem built1 : Tryd.prog.built 30 [(0, .int .u8 1)] = some (arr 32 (u8v (oneN 1))) := by kernel_rfl
theorem built0 : Tryd.prog.built 30 [] = some (arr 32 (u8v fun _ => 0)) := by kernel_rfl
theorem ex_eqRB {o : Oper} {a : Act} {rt : TypeId} {xo yo : Operand} {w : World} {y z : Nat → Nat} (b : Bool) (hop : o.op = .binOp .eql 30 xo yo rt) (hx : a.eval xo = rootV y) (hy : a.eval yo = rootV z) (hb : b = true ↔ ∀ i, i < 32 → y i = z i) : (execOp a.eval o).run Tryd.prog w = .ok (.value (.bool b)) w :=
  ex_eqFlat 3 32 (u8v y) (u8v z) b hop hx hy Tryd.underlying30 rfl (by kernel_rfl) (by omega) (by kernel_rfl) (TreeSt.root_kinds y z) (TreeSt.u8_iff y z b hb)
theorem opOb_eqRB {ops : Array Oper} {B : Nat} {w0 : World} {o : Oper} {lk : Tmp → SF} {rt : TypeId} {xo yo : Operand} {y z : Nat → Nat} (b : Bool) (hg : o.guard = none) (hop : o.op = .binOp .eql 30 xo yo rt) (hx : OpK lk xo (rootV y)) (hy : OpK lk yo (rootV z)) (hb : b = true ↔ ∀ i, i < 32 → y i = z i) : opOb Tryd.prog ops B w0 o (SF.is (.bool b)) lk :=
  opOb_val _ hg fun a w _ hf => ex_eqRB b hop (hx.eval hf (by rw [hop]; simp [Op.operands])) (hy.eval hf (by rw [hop]; simp [Op.operands])) hb
theorem ent_root (vs : Array Value) (w : World) : (callFunc 12 vs).run Tryd.prog w = .ok (.enter 12 vs) w := by kernel_rfl
theorem ent_len (vs : Array Value) (w : World) : (callFunc 14 vs).run Tryd.prog w = .ok (.enter 14 vs) w := by kernel_rfl
end TreeAwake
open TreeAwake in
set_option maxHeartbeats 4000000 in
theorem awake06_any (w : World) (hp : ShaPkg w) (hpt : TzPkg w) : Calls Tryd.prog 8 #[] w fun e w' => e = .returned (.bool true) ∧ Below w.heap.size w w' := by
  have HP := Lib.hid hp
  have HPT := Lib.hid hpt
  have HPB := Lib.hid hp.lt
  have HTB := Lib.hid hpt.lt
  obtain ⟨Z, hZ⟩ : ∃ Z, Z = treeN (dep 5) 1 (oneN 1) := ⟨_, rfl⟩
  have HZ : Hid (treeN (dep 5) 1 (oneN 1) = Z) := Lib.hid hZ.symm
  have HK : Hid (treeK 5 1 = 0) := Lib.hid (by decide)
  have HZr : Hid (treeR 5 1 (oneN 1) = Z) := Lib.hid (by rw [hZ]; unfold treeR; rw [if_neg (by decide), if_neg (by decide)]; rfl)
  clear hp hpt hZ
  go_enter Tryd.func8, Tryd.ntmps8
  go_wp2_with (first
    | (go_at_call 9; refine (tnew_look 5 (by omega) (by omega) _ HP.out).mono ?_; rintro r w1 ⟨T, v, rfl, hm, hst, hl, hH, hD, hd, hb⟩; have HM1 := Lib.hid hm; have HT1 := Lib.hid hst; have HL1 := Lib.hid hl; have HH1 := Lib.hid hH; have HD1 := Lib.hid hD; have HB1 := Lib.hid hb; clear hm hst hl hH hD hd hb)
    | (refine wpList_asG rfl rfl rfl 9 rfl (rootV (oneN 1)) ?_ ?_; (· exact TreeCopy.ex_build 30 _ rfl [(0, .int .u8 1)] rfl _ built1))
    | (go_at_call 10; refine (tapp_any v w.heap.size T 0 5 (fun _ => 0) (oneN 1) _ HM1.out HT1.out HL1.out (oneN_lt (by omega))).mono ?_; rintro r w2 ⟨v2, rfl, hm, hs, hst, _, hH⟩; have HM2 := Lib.hid hm; have HS2 := Lib.hid hs; have HT2 := Lib.hid hst; have HH2 := Lib.hid hH; clear hm hs hst hH)
    | (refine wpList_asG rfl rfl rfl 15 rfl (rootV fun _ => 0) ?_ ?_; (· exact TreeCopy.ex_build 30 _ rfl [] rfl _ built0))
    | (go_at_call 11; refine (tset_any v2 w.heap.size T 1 1 (appX 0 5 (fun _ => 0) (oneN 1)) (fun _ => 0) _ HM2.out HT2.out (fun _ => by omega)).mono ?_; rintro r w3 ⟨v3, rfl, hm, hs, hst, _, hH⟩; have HM3 := Lib.hid hm; have HS3 := Lib.hid hs; have HT3 := Lib.hid hst; have HH3 := Lib.hid hH; have HB3 := Lib.hid (HB1.out.trans ((HS2.out.trans hs).below HM1.out (Nat.le_refl _) HB1.out.size)); clear hm hs hst hH)
    | (refine wpList_as rfl 20 rfl (rootV (oneN 1)) ?_ ?_; (· exact TreeCopy.ex_build 30 _ rfl [(0, .int .u8 1)] rfl _ built1))
    | (refine wpList_bs1 rfl Tryd.underlying22 (z := 32) (by kernel_rfl) (by omega) (by omega) (v0 := .agg (Array.replicate 32 (.int .u8 0))) (by kernel_rfl) _ rfl (u8v (oneN 1)) rfl (HS.nil _) ?_; intro b4 w4 hb4 hc4 hs; have HR4 := Lib.hid (hs.row 0 rfl); have HB4 := Lib.hid (hs.out (by simp; omega)); clear hs)
    | (go_at_call 13; refine (tree_any 1 1 (some ⟨b4, 0, none⟩) (oneN 1) 5 _ (Rd.of_row (n := 1 * 32) HR4.out (Nat.le_refl _) HR4.out.lt) (oneN_lt (by omega)) (by omega) ((HP.out.below (HB3.out)).below HB4.out)).mono ?_; rintro r w5 ⟨rfl, hb⟩; rw [HZr.out, HK.out]; have HB5 := Lib.hid (HB4.out.trans (hb.mono HB4.out.size)); clear hb)
    | (refine wpList_allocL rfl 30 2 rfl rfl (HS.nil _) (Array.replicate 32 (.int .u8 0)) (by kernel_rfl) 32 (u8v fun _ => 0) (by rfl) (zero_at 32 (.int .u8 0)) ?_; intro b2 w6 hb2 hc2 hs; have HS6 := Lib.hid hs; clear hs)
    | (refine wpList_storeH rfl 30 (.tmp 2) (.tmp 23) rfl HS6.out 0 rfl (u8v Z) rfl rfl (by kernel_rfl) (fun _ _ => rfl) ?_; intro w7 hs; have HR7 := Lib.hid (hs.row 0 rfl); have HB7 := Lib.hid (HB5.out.trans ((hs.out (by simp; omega)).mono HB5.out.size)); have HB67 := Lib.hid (hs.out (by simp; omega)); clear hs))
  have HM7 := Lib.hid (HM3.out.below HB7.out)
  have HP7 := Lib.hid ((HP.out.below HB3.out).below HB7.out)
  have HPT7 := Lib.hid ((HPT.out.below HB3.out HTB.out).below HB7.out (Nat.lt_of_lt_of_le HTB.out HB3.out.size))
  have HZ3 : Hid (rootV (treeN v3.D 1 (setX 1 (appX 0 5 (fun _ => 0) (oneN 1)) 1 fun _ => 0)) = rootV Z) := Lib.hid (by
    rw [HS3.out.D, HS2.out.D, HD1.out, ← HZ.out]
    refine tree_congr _ 1 _ _ (by decide) (fun i hi => ?_)
    unfold setX appX
    rw [if_neg (by decide), if_pos (by decide)]
    unfold appN catN
    rw [if_neg (by omega)]
    rfl)
  have HN7 : Hid (∀ v' wj, TStep w7 wj T v3 v' → ¬ v'.own T b2) := Lib.hid (fun v' wj hs ho => by
    have h1 := HR7.out.lt
    rcases hs.new b2 ho with h2 | h2
    · have := HM3.out.lt h2
      have := HB5.out.size
      omega
    · omega)
  refine wp_region_stage (l := [_, _, _, _, _, _, _, _, _, _, _, _, _, _]) (N := 1) (fun k wj => (∃ v', TM wj w.heap.size T v' ∧ TStep w7 wj T v3 v' ∧ v'.lm 0 = 1 ∧ (k = 0 → v' = v3)) ∧ wj.rowIs b2 30 32 (u8v Z)) [SF.is (.int .i64 0), SF.is (.bool true), SF.is (.bool true), SF.is (tpV T), SF.is (rootV Z), SF.is (rootV Z), SF.is (.bool true), SF.is (.bool true), SF.is (.bool true), SF.is (tpV T), SF.is (.int .i64 1), SF.is (.bool true), SF.is (.bool true), SF.is (.bool true)] [none, none, none, none, some 0, none, none, none, none, none, none, none, none, none] (by kernel_rfl) (by kernel_rfl) (by kernel_rfl) rfl rfl (fun k w1 w2 ⟨⟨v', h1, h2, h3, h4⟩, h5⟩ hb => ⟨⟨v', h1.below hb, h2.trans (TStep.refl hb), h3, h4⟩, row_below h5 hb h5.lt⟩) (pure_is (Fs := [.int .i64 0, .bool true, .bool true, tpV T, rootV Z, rootV Z, .bool true, .bool true, .bool true, tpV T, .int .i64 1, .bool true, .bool true, .bool true])) (⟨⟨v3, HM7.out, TStep.refl (Below.refl _ _), HT3.out.n0, fun _ => rfl⟩, HR7.out⟩) ⟨?_, ?_, ?_, ?_, ?_, ?_, ?_, ?_, ?_, ?_, ?_, ?_, ?_, ?_, trivial⟩ ?_
  · exact fun k wj hj => (opOb_move _ rfl (.inl rfl) rfl)
  · exact fun k wj hj => opOb_eqInt .i64 0 0 true Tryd.underlying27 (by simp) rfl rfl (OpK.tmp rfl) OpK.const
  · exact fun k wj hj => (opOb_move _ rfl (.inl rfl) rfl)
  · exact fun k wj hj => opOb_on 27 rfl rfl ((opOb_move _ rfl (.inl rfl) rfl))
  · exact opJ_on 27 rfl rfl (opJ_fn1 ent_root rfl rfl (OpK.tmp rfl) (fun wj ⟨⟨v', h1, h2, h3, h4⟩, h5⟩ => by obtain rfl := h4 rfl; exact (troot_any v' w.heap.size T 1 _ wj h1 HT3.out (by rw [HH3.out, HH2.out, HH1.out]; omega) (HP7.out.base HPB.out (h2.below HM7.out (Nat.le_refl _) HM7.out.base_le)) HPB.out (HPT7.out.below (h2.below HM7.out (Nat.le_refl _) HM7.out.base_le) HTB.out)).mono fun e w2 ⟨v4, he, k1, k2, k3, _, _⟩ => ⟨_, he, by rw [HZ3.out]; rfl, ⟨v4, k1, h2.trans k2, k3.n0, fun e => by cases e⟩, (k2.chg.row h5 (fun ho => HN7.out _ _ h2 ho))⟩))
  · exact fun k wj hj => opOb_on 27 rfl rfl (opOb_ld rfl rfl (OpK.tmp rfl) (fun w' hb => ld_all hj.2 hj.2.lt Tryd.underlying30 rfl (by kernel_rfl) w' hb))
  · exact fun k wj hj => opOb_on 27 rfl rfl (opOb_eqRB true rfl rfl (OpK.tmp rfl) (OpK.tmp rfl) (by simp))
  · exact fun k wj hj => opOb_pickT rfl rfl rfl (OpK.tmp rfl)
  · exact fun k wj hj => (opOb_move _ rfl (.inl rfl) rfl)
  · exact fun k wj hj => opOb_on 33 rfl rfl ((opOb_move _ rfl (.inl rfl) rfl))
  · exact fun k wj hj => opOb_on 33 rfl rfl (opOb_fn1 ent_len rfl rfl (OpK.tmp rfl) (fun w' hb => by obtain ⟨⟨v', h1, h2, h3, h4⟩, h5⟩ := hj; exact (tlen_look v' _ T w' (h1.below hb)).mono fun r w2 ⟨he, hw⟩ => ⟨_, (by rw [he, h3]; rfl), rfl, by subst hw; exact Below.refl _ _⟩))
  · exact fun k wj hj => opOb_on 33 rfl rfl (opOb_eqInt .i64 1 1 true Tryd.underlying3 (by simp) rfl rfl (OpK.tmp rfl) OpK.const)
  · exact fun k wj hj => opOb_pickT rfl rfl rfl (OpK.tmp rfl)
  · exact fun k wj hj => (opOb_move _ rfl (.inr rfl) rfl)
  · intro wn hj
    simp only [fin, SF.is, forall_eq]
    simp only [Act.put, List.setIfInBounds_toArray, List.set_cons_succ, List.set_cons_zero]
    obtain ⟨⟨v4, h1, h2, _, _⟩, _⟩ := hj
    have HBe := Lib.hid (HB3.out.trans ((HB7.out.mono HB3.out.size).trans (h2.below HM7.out (Nat.le_refl _) HM7.out.base_le)))
    clear h1 h2
    go_wp2_with fail
    go_ret
    exact ⟨rfl, HBe.out⟩
end Go.Proofs.YtlcpflaofggmeaaDoor
/- Arguments that are arrays; package variables that lie as they were laid. -/
namespace Go.Proofs.YtlcpflaofggmeaaDoor
set_option maxRecDepth 40000
open Go.RowKit Go.ChangeShapes Go.WideShapes Go.ChangeAt
theorem open_arr_ints {H : Type} {enc : TypeId × Value → H} {P : Program} {W : World} {base b0 : Nat} {sp : Nat → Bool} {held : Bool} {r : Reach} {t e : TypeId} {n : Nat} {k : IntKind} {v : Value} {d : DataW H} {ps : List MemPlace}
    (hu : P.underlying t = some (.array n e)) (he : P.underlying e = some (.int k)) (hce : P.cellsOf e = 1) (hct : P.cellsOf t = n) (hval : Value.okWide P W r b0 t v) (hd : DataW.Trod enc P W base sp held t v d ps) :
    ∃ z : Nat → Int, v = .agg (arr n fun i => .int k (z i)) ∧ ∀ i, i < n → (Lit.int k (z i)).wf = true := by
  simp only [Value.okWide, hu] at hval
  obtain ⟨xs, rfl, hn, _⟩ := hval
  obtain ⟨fuel, hf⟩ := hd
  cases fuel with
  | zero => simp [DataW.trod] at hf
  | succ m =>
    rw [DataW.trod_step] at hf
    unfold DataW.trodStep at hf
    simp only [hu, Value.cells] at hf
    rw [if_pos (by simpa using hn)] at hf
    simp only [Option.map_eq_some_iff] at hf
    obtain ⟨ys, hy, e1⟩ := hf
    have hcell : ∀ i, i < n → ∃ z, xs[i]? = some (.int k z) ∧ (Lit.int k z).wf = true := by
      intro i hi
      obtain ⟨b, _, hb⟩ := Lib.mapM_at hy i i (by simp [hi])
      rw [hce] at hb
      obtain ⟨z, h1, _, h3⟩ := DataW.trod_int he hb
      refine ⟨z, ?_, h3⟩
      have hl : (List.take 1 (List.drop (i * 1) xs.toList))[0]? = some (.int k z) := by rw [h1]; rfl
      simpa using hl
    have h2 : ∀ i, ∃ z, i < n → (xs[i]? = some (.int k z) ∧ (Lit.int k z).wf = true) := fun i => by
      by_cases hi : i < n
      · obtain ⟨z, hz⟩ := hcell i hi; exact ⟨z, fun _ => hz⟩
      · exact ⟨0, fun h => absurd h hi⟩
    obtain ⟨z, hz⟩ := Classical.axiomOfChoice h2
    exact ⟨z, by rw [arr_of xs n (fun i => .int k (z i)) (by rw [hn, hct]) (fun i hi => (hz i hi).1)], fun i hi => (hz i hi).2⟩
/-- A [32]byte and its like. -/
theorem open_bytes {H : Type} {enc : TypeId × Value → H} {P : Program} {W : World} {base b0 : Nat} {sp : Nat → Bool} {held : Bool} {r : Reach} {t e : TypeId} {n : Nat} {v : Value} {d : DataW H} {ps : List MemPlace}
    (hu : P.underlying t = some (.array n e)) (he : P.underlying e = some (.int .u8)) (hce : P.cellsOf e = 1) (hct : P.cellsOf t = n) (hval : Value.okWide P W r b0 t v) (hd : DataW.Trod enc P W base sp held t v d ps) :
    ∃ x : Nat → Nat, v = .agg (arr n fun i => .int .u8 ((x i : Nat) : Int)) ∧ ∀ i, x i < 256 := by
  obtain ⟨z, rfl, hw⟩ := open_arr_ints hu he hce hct hval hd
  refine ⟨fun i => if i < n then (z i).toNat else 0, congrArg Value.agg (arr_congr fun i hi => ?_), fun i => ?_⟩
  · have := wf_u8 (hw i hi)
    simp only [if_pos hi, Int.toNat_of_nonneg this.1]
  · show (if i < n then (z i).toNat else 0) < 256
    split
    · rename_i h; have := wf_u8 (hw i h); omega
    · omega

/-- What lies behind the first on the list. -/
theorem laid_tail {P : Program} {W : World} {x : String × DataW Unit} {rest : List (String × DataW Unit)} {ps : List MemPlace} (h : DataW.LaidVars P W (x :: rest) ps) : ∃ q, DataW.LaidVars P W rest q := by
  obtain ⟨g', t', cs, fuel, p, q, _, _, _, _, h1, _⟩ := h
  exact ⟨q, h1⟩
theorem tab_of {P : Program} {W : World} {name : String} {k : IntKind} {zs : List Int} {rest : List (String × DataW Unit)} {g : Nat} {t e : TypeId} {n : Nat} {ps : List MemPlace}
    (hg : P.globalNamed name = some g) (hty : (P.globals[g]?).map (·.type) = some t) (ht : P.underlying t = some (.array n e)) (he : P.underlying e = some (.int k)) (hce : P.cellsOf e = 1) (hct : P.cellsOf t = n)
    (h : DataW.LaidVars P W ((name, Lib.tabData k zs) :: rest) ps) (i : Nat) (hi : i < zs.length) : W.cell? ⟨g, i, none⟩ = some (.int k (zs.getD i 0)) := by
  obtain ⟨g', t', cs, fuel, p, q, hg', ht', hvar, hd, _, _⟩ := h
  obtain rfl := Option.some.inj (hg.symm.trans hg')
  obtain rfl := Option.some.inj (hty.symm.trans ht')
  have hT : Lib.TabIs P W name k zs := by
    unfold Lib.TabIs
    rw [hvar, ← Lib.cells_of_tab ht he hce hct hd]
  exact hT.cell hg i hi
/-- The witness's world: the settled one, block g holding these cells. -/
noncomputable def laidInto (w : World) (g : Nat) (cs : Array Value) : World :=
  { w with heap := w.heap.modify g fun
      | .cells _ t frozen => .cells cs t frozen
      | o => o }
end Go.Proofs.YtlcpflaofggmeaaDoor
/- The table of math/bits, as it was laid. -/
namespace Go.Proofs.YtlcpflaofggmeaaDoor
set_option maxRecDepth 40000
open Go.RowKit Go.ChangeShapes Go.WideShapes Go.ChangeAt
def zsD : List Int := Go.Lib.deBruijn64tab.map fun n : Nat => (n : Int)
theorem zsD_at : ∀ i, i < 64 → zsD.getD i 0 = ((Go.Lib.deBruijn64tab.getD i 0 : Nat) : Int) := by decide +kernel
theorem tab_deBruijn {W : World} {rest : List (String × DataW Unit)} {ps : List MemPlace} (h : DataW.LaidVars Tryd.prog W (("math/bits.deBruijn64tab", Rows.laid_math_bits_deBruijn64tab) :: rest) ps) : ∀ i, i < 64 → W.cell? ⟨1, i, none⟩ = some (.int .u8 ((Go.Lib.deBruijn64tab.getD i 0 : Nat) : Int)) := fun i hi => by
  have h' : DataW.LaidVars Tryd.prog W (("math/bits.deBruijn64tab", Lib.tabData .u8 zsD) :: rest) ps := h
  have := tab_of (P := Tryd.prog) (g := 1) (t := 71) (e := 5) (n := 64) (by kernel_rfl) (by kernel_rfl) Tryd.underlying71 Tryd.underlying5 (by kernel_rfl) (by kernel_rfl) h' i hi
  rw [this, zsD_at i hi]
theorem tz_pkg {w : World} (h : ∀ i, i < 64 → w.cell? ⟨1, i, none⟩ = some (.int .u8 ((Go.Lib.deBruijn64tab.getD i 0 : Nat) : Int))) : TzPkg w := ⟨h, by
  have h0 := h 0 (by omega)
  rcases Nat.lt_or_ge 1 w.heap.size with h1 | h1
  · exact h1
  · exfalso
    have : w.heap[1]? = none := Array.getElem?_eq_none h1
    simp [World.cell?, this] at h0⟩
/-- What the witness's world holds. -/
def csD : Array Value := (zsD.map (Value.int .u8)).toArray
end Go.Proofs.YtlcpflaofggmeaaDoor
/- What the laws of trees share: remainders, leaves, a root that is asked for among other things, the calls of a script. (Printed by a program of mine.) -/
namespace Go.Proofs.YtlcpflaofggmeaaDoor
set_option maxRecDepth 40000
open Go.RowKit
namespace TreeLaw
theorem modI (a : Int) (k : Nat) (hk : 0 < k) (w : World) : (binOp .rem 3 (.int .i64 a) (.int .i64 (k : Int))).run Tryd.prog w = .ok (.int .i64 (a.tmod (k : Int))) w := by
  have h0 : ¬ (k = 0) := by omega
  simp [go_sem, h0]
theorem addZ (a b c : Int) (hc : a + b = c) (hb : -9223372036854775808 ≤ c ∧ c ≤ 9223372036854775807) (w : World) : (binOp .add 3 (.int .i64 a) (.int .i64 b)).run Tryd.prog w = .ok (.int .i64 c) w := by
  subst hc
  simp [go_sem, IntKind.wrap, IntKind.bits, IntKind.signed]
  omega
theorem mulZ (a b c : Int) (hc : a * b = c) (hb : -9223372036854775808 ≤ c ∧ c ≤ 9223372036854775807) (w : World) : (binOp .mul 3 (.int .i64 a) (.int .i64 b)).run Tryd.prog w = .ok (.int .i64 c) w := by
  subst hc
  simp [go_sem, IntKind.wrap, IntKind.bits, IntKind.signed]
  omega
theorem cutK (m : Int) (k : Nat) (hk : 0 < k) : ∃ n : Nat, n < k ∧ (m.tmod (k : Int) + (k : Int)).tmod (k : Int) = (n : Int) ∧ -(k : Int) < m.tmod (k : Int) ∧ m.tmod (k : Int) < (k : Int) := by
  have h1 := Int.tmod_lt_of_pos m (show (0 : Int) < (k : Int) by omega)
  have h2 := Int.lt_tmod_of_pos m (show (0 : Int) < (k : Int) by omega)
  rw [Int.tmod_eq_emod_of_nonneg (by omega)]
  have h3 := Int.emod_nonneg (m.tmod (k : Int) + (k : Int)) (show (k : Int) ≠ 0 by omega)
  have h4 := Int.emod_lt_of_pos (m.tmod (k : Int) + (k : Int)) (show (0 : Int) < (k : Int) by omega)
  exact ⟨((m.tmod (k : Int) + (k : Int)) % (k : Int)).toNat, by omega, by omega, h2, h1⟩
/-- Leaf k of a list. -/
def leafN (x : Nat → Nat) (k : Nat) : Nat → Nat := fun q => x (k * 32 + q)
theorem app_leaf (x : Nat → Nat) (k : Nat) : appN x k (leafN x k) = x := by
  funext j
  unfold appN catN leafN
  split
  · rfl
  · congr 1; omega
end TreeLaw
theorem TSt.x_congr {v : TV} {n : Nat} {x x' : Nat → Nat} (h : TSt v n x) (hx : ∀ i, i < n * 32 → x' i = x i) : TSt v n x' :=
  { h with x0 := fun i hi => (h.x0 i hi).trans (hx i hi).symm, lev := fun d hd => lev_congr (h.lev d hd) hx }
theorem TM.mono {w : World} {base base' T : Nat} {v : TV} (h : TM w base T v) (hb : base' ≤ base) : TM w base' T v :=
  { h with baseT := Nat.le_trans hb h.baseT, zb := fun b hz => Nat.le_trans hb (h.zb b hz), baseL := Nat.le_trans hb h.baseL, lv := fun k hk => (h.lv k hk).mono hb, dr := h.dr.mono hb }
namespace TreeLaw
/-- A tree whose root is asked for once: before it, and behind it. -/
def RJ (B T n : Nat) (x : Nat → Nat) (w0 : World) (v0 : TV) (k : Nat) (wj : World) : Prop := ∃ v', TM wj B T v' ∧ TStep w0 wj T v0 v' ∧ TSt v' n x ∧ (k = 0 → v' = v0) ∧ (0 < k → (∀ a, dirB v'.dn v'.dw a = false) ∧ v'.H = v0.H + costN n (dirB v0.dn v0.dw) v0.D)
section
variable {B T n : Nat} {x : Nat → Nat} {w0 wj w' : World} {v0 : TV} {k : Nat}
theorem RJ.start (hm : TM w0 B T v0) (hst : TSt v0 n x) : RJ B T n x w0 v0 0 w0 := ⟨v0, hm, TStep.refl (Below.refl _ _), hst, fun _ => rfl, fun h => by omega⟩
theorem RJ.below (h : RJ B T n x w0 v0 k wj) (hb : Below wj.heap.size wj w') : RJ B T n x w0 v0 k w' := by
  obtain ⟨v', h1, h2, h3, h4, h5⟩ := h
  exact ⟨v', h1.below hb, h2.trans (TStep.refl hb), h3, h4, h5⟩
theorem RJ.row (h : RJ B T n x w0 v0 k wj) {b m : Nat} {t : TypeId} {f : Nat → Value} (hr : w0.rowIs b t m f) (hn : ¬ v0.own T b) : wj.rowIs b t m f := by
  obtain ⟨v', h1, h2, h3, h4, h5⟩ := h
  exact h2.chg.row hr hn
theorem RJ.base (h : RJ B T n x w0 v0 k wj) (hm : TM w0 B T v0) : Below B w0 wj := by
  obtain ⟨v', h1, h2, h3, h4, h5⟩ := h
  exact h2.below hm (Nat.le_refl _) hm.base_le
theorem RJ.root (h : RJ B T n x w0 v0 0 wj) (hm : TM w0 B T v0) (hH : v0.H ≤ 1152921504606846976) (hp : ShaPkg w0) (hpB : 0 < B ∧ 2 < B) (hpt : TzPkg w0) (htB : 1 < B) :
    Calls Tryd.prog 12 #[tpV T] wj fun e w' => ∃ r, e = .returned r ∧ r = rootV (treeN v0.D n x) ∧ RJ B T n x w0 v0 1 w' := by
  have hb := h.base hm
  obtain ⟨v', h1, h2, h3, h4, _⟩ := h
  obtain rfl := h4 rfl
  refine (troot_any v' B T n x wj h1 h3 hH (hp.base hpB hb) hpB (hpt.below hb htB)).mono ?_
  rintro e w2 ⟨v4, he, k1, k2, k3, k4, k5⟩
  exact ⟨_, he, rfl, v4, k1, h2.trans k2, k3, fun e => by omega, fun _ => ⟨k4, k5⟩⟩
theorem RJ.len (h : RJ B T n x w0 v0 k wj) {w2 : World} (hb : Below wj.heap.size wj w2) : Calls Tryd.prog 14 #[tpV T] w2 fun e w' => ∃ r, e = .returned r ∧ r = .int .i64 (n : Int) ∧ Below w2.heap.size w2 w' := by
  obtain ⟨v', h1, h2, h3, h4, h5⟩ := h
  refine (tlen_look v' B T w2 (h1.below hb)).mono ?_
  rintro e w3 ⟨he, hw⟩
  exact ⟨_, he, by rw [h3.n0], by subst hw; exact Below.refl _ _⟩
theorem RJ.done (h : RJ B T n x w0 v0 1 wj) : ∃ v', TM wj B T v' ∧ TStep w0 wj T v0 v' ∧ TSt v' n x ∧ (∀ a, dirB v'.dn v'.dw a = false) ∧ v'.H = v0.H + costN n (dirB v0.dn v0.dw) v0.D := by
  obtain ⟨v', h1, h2, h3, _, h5⟩ := h
  exact ⟨v', h1, h2, h3, (h5 (by omega)).1, (h5 (by omega)).2⟩
end
/-- Few hashes at each root. -/
theorem cost_le (n : Nat) (t : Nat → Bool) (D : Nat) : costN n t D ≤ n + D := by have := cost_all n t D; omega
theorem treeR_ok {l n : Nat} (x : Nat → Nat) (h1 : n ≤ l) (h2 : l ≤ 1099511627776) : treeR (l : Int) n x = treeN (dep l) n x := by
  unfold treeR
  rw [if_neg (by omega), if_neg (by simp; omega)]
  rfl
theorem treeK_ok {l n : Nat} (h1 : n ≤ l) (h2 : l ≤ 1099511627776) : treeK (l : Int) n = 0 := by
  unfold treeK
  rw [if_neg (by omega), if_neg (by simp; omega)]
theorem run_ldB {P : Program} (w : World) (ad : Addr) (ty : TypeId) (v : Value) (h : w.cell? ad = some v) (hu : P.underlying ty = some .bool) : (Instr.loadAt ty (.pointer (some ad))).run P w = .ok v w := by
  simp only [Instr.loadAt, Instr.sureAddr, Sem.run_bind, Sem.run_pure, Result.andThen]
  have hagg : (isAgg ty).run P w = .ok false w := by
    unfold isAgg
    simp [run_underlying hu, Sem.run_bind]
  simp [hagg, go_sem, h]
theorem ex_ldB {P : Program} {w : World} {o : Oper} {a : Act} {ty : TypeId} {x : Operand} {ad : Addr} {v : Value} (ho : o.op = .load ty x) (hx : a.eval x = .pointer (some ad)) (hu : P.underlying ty = some .bool) (h : w.cell? ad = some v) : (execOp a.eval o).run P w = .ok (.value v) w := by
  unfold execOp
  rw [ho]
  simp only [hx]
  simp [run_ldB w ad ty v h hu]
theorem ent_root (vs : Array Value) (w : World) : (callFunc 12 vs).run Tryd.prog w = .ok (.enter 12 vs) w := by kernel_rfl
theorem ent_len (vs : Array Value) (w : World) : (callFunc 14 vs).run Tryd.prog w = .ok (.enter 14 vs) w := by kernel_rfl
end TreeLaw
end Go.Proofs.YtlcpflaofggmeaaDoor
/- Arguments that are lists of byte arrays. -/
namespace Go.Proofs.YtlcpflaofggmeaaDoor
set_option maxRecDepth 40000
open Go.RowKit Go.ChangeShapes Go.WideShapes Go.ChangeAt
theorem open_chunks {H : Type} {enc : TypeId × Value → H} {P : Program} {W : World} {b0 : Nat} {r : Reach} {t e u : TypeId} {k : Nat} {v : Value} {d : DataW H} {ps : List MemPlace}
    (ht : P.underlying t = some (.slice e)) (hlt : leafAt P 8 t 0 = some t) (hl : ∀ q, q < k → leafAt P 8 e q = some u) (hu : P.underlying u = some (.int .u8)) (hct : P.cellsOf e = k) (hk : 0 < k)
    (hval : Value.okWide P W r b0 t v) (hd : DataW.Trod enc P W 0 (fun _ => true) true t v d ps) :
    ∃ A n c, ∃ z : Nat → Nat, v = .slice A n c ∧ Rd W W.heap.size A (n * k) (fun i => .int .u8 ((z i : Nat) : Int)) ∧ (∀ i, z i < 256) ∧ n ≤ c ∧ (n = 0 ∨ ∃ el sp, d = .slice el sp ∧ el.length = n) := by
  obtain ⟨a, len, cap, rfl⟩ := okWide_slice ht hval
  obtain ⟨fuel, hf⟩ := hd
  have hty : TyF enc P W (fun _ => .slice a len cap) t := TyF.of_trod hf (fun i v hv => by
    have hc : (Value.slice a len cap).cells.toList = [.slice a len cap] := rfl
    rw [hc] at hv
    cases i with
    | zero => simpa using hv
    | succ i => simp at hv)
  obtain ⟨A, n, c, G, e1, hn, hm, hr, ht2, _⟩ := hty.slice 0 hlt ht hct hk
  injection e1 with e1 e2 e3
  subst e1 e2 e3
  refine ⟨a, len, cap, fun i => nat (G i) % 256, rfl, hr.congr (fun i hi => ?_), fun i => Nat.mod_lt _ (by omega), hn, ?_⟩
  · have hj : i / k < len := Nat.div_lt_of_lt_mul (by rwa [Nat.mul_comm])
    have hq : i % k < k := Nat.mod_lt _ hk
    have h2 := (ht2 (i / k) hj).u8 (i % k) (hl _ hq) hu
    have e : i / k * k + i % k = i := by rw [Nat.mul_comm]; exact Nat.div_add_mod i k
    simp only [e] at h2
    show G i = .int .u8 ((nat (G i) % 256 : Nat) : Int)
    rw [Nat.mod_eq_of_lt h2.2]
    exact h2.1
  · rcases Go.Deep.open_slice ht hf with ⟨hcs, _⟩ | ⟨a', len', cap', m', n', D, Pl, hcs, _, _, _, _, hx, _⟩
    · simp [Value.cells] at hcs; exact .inl hcs.2.1
    · simp [Value.cells] at hcs
      obtain ⟨_, e2, _⟩ := hcs
      injection hx with hx _
      exact .inr ⟨_, _, hx, by simp [e2]⟩
end Go.Proofs.YtlcpflaofggmeaaDoor
/- Arguments that are lists of calls: two numbers and a root each. -/
namespace Go.Proofs.YtlcpflaofggmeaaDoor
set_option maxRecDepth 40000
open Go.RowKit Go.ChangeShapes Go.WideShapes Go.ChangeAt
def i64c (v : Value) : Int := match v with | .int _ n => if -9223372036854775808 ≤ n ∧ n ≤ 9223372036854775807 then n else 0 | _ => 0
theorem i64c_bd (v : Value) : -9223372036854775808 ≤ i64c v ∧ i64c v ≤ 9223372036854775807 := by
  unfold i64c
  split
  · split
    · assumption
    · omega
  · omega
/-- The cells of a list of calls: kinds, numbers, and the leaves' bytes. -/
def opF (kd ix : Nat → Int) (lf : Nat → Nat) : Nat → Value := fun i => if i % 34 = 0 then .int .i64 (kd (i / 34)) else if i % 34 = 1 then .int .i64 (ix (i / 34)) else .int .u8 ((lf i : Nat) : Int)
theorem open_ops {H : Type} {enc : TypeId × Value → H} {P : Program} {W : World} {b0 : Nat} {r : Reach} {t e ti u : TypeId} {v : Value} {d : DataW H} {ps : List MemPlace}
    (ht : P.underlying t = some (.slice e)) (hlt : leafAt P 8 t 0 = some t) (h0 : leafAt P 8 e 0 = some ti) (h1 : leafAt P 8 e 1 = some ti) (hti : P.underlying ti = some (.int .i64)) (hl : ∀ q, q < 32 → leafAt P 8 e (2 + q) = some u) (hu : P.underlying u = some (.int .u8)) (hct : P.cellsOf e = 34)
    (hval : Value.okWide P W r b0 t v) (hd : DataW.Trod enc P W 0 (fun _ => true) true t v d ps) :
    ∃ A n c, ∃ (kd ix : Nat → Int) (lf : Nat → Nat), v = .slice A n c ∧ Rd W W.heap.size A (n * 34) (opF kd ix lf) ∧ (∀ i, -9223372036854775808 ≤ kd i ∧ kd i ≤ 9223372036854775807) ∧ (∀ i, -9223372036854775808 ≤ ix i ∧ ix i ≤ 9223372036854775807) ∧ (∀ i, lf i < 256) ∧ n ≤ c ∧ (n = 0 ∨ ∃ el sp, d = .slice el sp ∧ el.length = n) := by
  obtain ⟨a, len, cap, rfl⟩ := okWide_slice ht hval
  obtain ⟨fuel, hf⟩ := hd
  have hty : TyF enc P W (fun _ => .slice a len cap) t := TyF.of_trod hf (fun i v hv => by
    have hc : (Value.slice a len cap).cells.toList = [.slice a len cap] := rfl
    rw [hc] at hv
    cases i with
    | zero => simpa using hv
    | succ i => simp at hv)
  obtain ⟨A, n, c, G, e1, hn, hm, hr, ht2, _⟩ := hty.slice 0 hlt ht hct (by omega)
  injection e1 with e1 e2 e3
  subst e1 e2 e3
  have hi64 : ∀ (v : Value) (m : Int), v = .int .i64 m → (Lit.int .i64 m).wf = true → v = .int .i64 (i64c v) := fun v m e hw => by
    subst e
    have := wf_i64 hw
    unfold i64c
    simp only
    rw [if_pos this]
  refine ⟨a, len, cap, fun j => i64c (G (j * 34)), fun j => i64c (G (j * 34 + 1)), fun i => nat (G i) % 256, rfl, hr.congr (fun i hi => ?_), fun i => i64c_bd _, fun i => i64c_bd _, fun i => Nat.mod_lt _ (by omega), hn, ?_⟩
  · have hj : i / 34 < len := Nat.div_lt_of_lt_mul (by rwa [Nat.mul_comm])
    have hq : i % 34 < 34 := Nat.mod_lt _ (by omega)
    have e : i / 34 * 34 + i % 34 = i := by omega
    have h2 := ht2 (i / 34) hj
    unfold opF
    by_cases hq0 : i % 34 = 0
    · rw [if_pos hq0]
      obtain ⟨m, hm1, hm2⟩ := h2.int 0 h0 hti
      rw [show i / 34 * 34 + 0 = i by omega] at hm1
      show G i = .int .i64 (i64c (G (i / 34 * 34)))
      rw [show i / 34 * 34 = i by omega]
      exact hi64 _ m hm1 hm2
    · rw [if_neg hq0]
      by_cases hq1 : i % 34 = 1
      · rw [if_pos hq1]
        obtain ⟨m, hm1, hm2⟩ := h2.int 1 h1 hti
        rw [show i / 34 * 34 + 1 = i by omega] at hm1
        show G i = .int .i64 (i64c (G (i / 34 * 34 + 1)))
        rw [show i / 34 * 34 + 1 = i by omega]
        exact hi64 _ m hm1 hm2
      · rw [if_neg hq1]
        have h3 := h2.u8 (2 + (i % 34 - 2)) (hl _ (by omega)) hu
        rw [show i / 34 * 34 + (2 + (i % 34 - 2)) = i by omega] at h3
        show G i = .int .u8 ((nat (G i) % 256 : Nat) : Int)
        rw [Nat.mod_eq_of_lt h3.2]
        exact h3.1
  · rcases Go.Deep.open_slice ht hf with ⟨hcs, _⟩ | ⟨a', len', cap', m', n', D, Pl, hcs, _, _, _, _, hx, _⟩
    · simp [Value.cells] at hcs; exact .inl hcs.2.1
    · simp [Value.cells] at hcs
      obtain ⟨_, e2, _⟩ := hcs
      injection hx with hx _
      exact .inr ⟨_, _, hx, by simp [e2]⟩
end Go.Proofs.YtlcpflaofggmeaaDoor
/- The calls of a script, on a tree and on the reference's tree side by side. -/
namespace Go.Proofs.YtlcpflaofggmeaaDoor
set_option maxRecDepth 40000
open Go.RowKit
/-- What calls on both may have changed since w: the tree's own blocks, the reference's cells; new memory is theirs. -/
structure Ran (w wr : World) (B p T : Nat) (v : TV) (A : Option Addr) (v' : TV) (l n' : Nat) (A' : Option Addr) (c' : Nat) (x' : Nat → Nat) : Prop where
  tr : TR wr B p T v' l n' A' c' x'
  chg : Chg (fun b => v.own T b ∨ b = p) w wr
  new : ∀ b, v'.own T b → v.own T b ∨ w.heap.size ≤ b
  newA : ∀ b, OnA A' b → OnA A b ∨ (w.heap.size ≤ b ∧ b < wr.heap.size)
  zA : v'.zA = v.zA
  ownA : (∀ b, OnA A b → b < w.heap.size ∧ ¬ v.own T b) → ∀ b, OnA A' b → ¬ v'.own T b
section
variable {w wr w1 w2 w' : World} {B p T l n n' c c' : Nat} {v v' v2 : TV} {A A' A2 : Option Addr} {x x' : Nat → Nat} {c2 n2 : Nat} {x2 : Nat → Nat}
theorem Ran.refl (h : TR w B p T v l n A c x) : Ran w w B p T v A v l n A c x := ⟨h, Chg.refl _ _, fun _ h => .inl h, fun _ h => .inl h, rfl, fun h b hb => (h b hb).2⟩
theorem Ran.trans (h : Ran w w1 B p T v A v' l n' A' c' x') (k : Ran w1 w2 B p T v' A' v2 l n2 A2 c2 x2) : Ran w w2 B p T v A v2 l n2 A2 c2 x2 where
  tr := k.tr
  chg := h.chg.trans k.chg (fun b hb => by
    rcases hb with hb | hb
    · rcases h.new b hb with h1 | h1
      · exact .inl (.inl h1)
      · exact .inr h1
    · exact .inl (.inr hb))
  new := fun b hb => by
    rcases k.new b hb with h1 | h1
    · exact h.new b h1
    · exact .inr (Nat.le_trans h.chg.size h1)
  newA := fun b hb => by
    rcases k.newA b hb with h1 | h1
    · rcases h.newA b h1 with h2 | h2
      · exact .inl h2
      · exact .inr ⟨h2.1, Nat.lt_of_lt_of_le h2.2 k.chg.size⟩
    · exact .inr ⟨Nat.le_trans h.chg.size h1.1, h1.2⟩
  zA := k.zA.trans h.zA
  ownA := fun h0 => k.ownA fun b hb => ⟨by
    rcases h.newA b hb with h1 | h1
    · exact Nat.lt_of_lt_of_le (h0 b h1).1 h.chg.size
    · exact h1.2, h.ownA h0 b hb⟩
theorem Ran.below (h : TR w B p T v l n A c x) (hb : Below w.heap.size w w') : Ran w w' B p T v A v l n A c x := ⟨h.below hb, (Chg.of_below hb), fun _ h => .inl h, fun _ h => .inl h, rfl, fun h b hb => (h b hb).2⟩
theorem Ran.tstep (h : TR w B p T v l n A c x) (hm : TM w1 B T v') (hs : TStep w w1 T v v') (hst : TSt v' n x) : Ran w w1 B p T v A v' l n A c x :=
  ⟨h.tstep hm hs hst, hs.chg.mono (fun _ _ hb => .inl hb), hs.new, fun _ h => .inl h, hs.zA, fun h0 b hb ho => by
    rcases hs.new b ho with h1 | h1
    · exact (h0 b hb).2 h1
    · have := (h0 b hb).1; omega⟩
theorem Ran.both (h : TR w B p T v l n A c x) (hm : TM w1 B T v') (hs : TStep w w1 T v v') (hst : TSt v' n' x') (hr : RM w2 p l A' n' c' x') (hg : w1.grownBy w2 (some p)) (hA : (A' = A ∧ n' = n) ∨ (0 < n' ∧ ∀ b, OnA A' b → w1.heap.size ≤ b)) (hx : ∀ i, x' i < 256) : Ran w w2 B p T v A v' l n' A' c' x' where
  tr := h.both hm hs hst hr hg hA hx
  chg := (hs.chg.mono (fun _ _ hb => .inl hb)).trans (Chg.of_grown (S := fun b => b = p) hg (fun b e => .inl (by injection e with e; exact e.symm))) (fun b e => .inl (.inr e))
  new := hs.new
  newA := fun b hb => by
    rcases hA with ⟨rfl, _⟩ | ⟨hn, hA⟩
    · exact .inl hb
    · exact .inr ⟨Nat.le_trans hs.chg.size (hA b hb), hr.lA hn hb⟩
  zA := hs.zA
  ownA := fun h0 b hb ho => by
    rcases hA with ⟨rfl, _⟩ | ⟨hn, hA⟩
    · rcases hs.new b ho with h1 | h1
      · exact (h0 b hb).2 h1
      · have := (h0 b hb).1; omega
    · have h1 := hA b hb
      have := hm.lt ho
      omega
/-- Memory below the base stays. -/
theorem Ran.base (h : Ran w wr B p T v A v' l n' A' c' x') (hm : TM w B T v) (hp : B ≤ p) : Below B w wr := h.chg.below hm.base_le (fun b hb => by
  rcases hb with hb | rfl
  · exact hm.ge hb
  · exact hp)
end
/-- A call on the tree, then the like call on the reference's: before both, between them, behind them. -/
def PJ (w0 : World) (B p T : Nat) (v : TV) (l n : Nat) (A : Option Addr) (n' : Nat) (x' : Nat → Nat) (k : Nat) (wj : World) : Prop := match k with
  | 0 => Below w0.heap.size w0 wj
  | 1 => ∃ v', TM wj B T v' ∧ TStep w0 wj T v v' ∧ TSt v' n' x' ∧ v'.H = v.H ∧ markN v' n' ≤ markN v n + 1
  | _ => ∃ v' A' c', Ran w0 wj B p T v A v' l n' A' c' x' ∧ v'.H = v.H ∧ markN v' n' ≤ markN v n + 1
section
variable {w0 wj w' : World} {B p T l n n' c k : Nat} {v : TV} {A : Option Addr} {x x' y : Nat → Nat}
theorem PJ.below (h : PJ w0 B p T v l n A n' x' k wj) (hb : Below wj.heap.size wj w') : PJ w0 B p T v l n A n' x' k w' := by
  match k, h with
  | 0, h => exact Below.trans h (hb.mono h.size)
  | 1, ⟨v', h1, h2, h3⟩ => exact ⟨v', h1.below hb, h2.trans (TStep.refl hb), h3⟩
  | k + 2, ⟨v', A', c', h1, h2⟩ => exact ⟨v', A', c', h1.trans (Ran.below h1.tr hb), h2⟩
theorem PJ.chg (h : PJ w0 B p T v l n A n' x' k wj) : Chg (fun b => v.own T b ∨ b = p) w0 wj := by
  match k, h with
  | 0, h => exact Chg.of_below h
  | 1, ⟨v', h1, h2, h3⟩ => exact h2.chg.mono (fun _ _ hb => .inl hb)
  | k + 2, ⟨v', A', c', h1, h2⟩ => exact h1.chg
theorem PJ.row (h : PJ w0 B p T v l n A n' x' k wj) {b m : Nat} {t : TypeId} {f : Nat → Value} (hr : w0.rowIs b t m f) (hn : ¬ v.own T b) (hp : b ≠ p) : wj.rowIs b t m f := h.chg.row hr (fun hb => by
  rcases hb with hb | hb
  · exact hn hb
  · exact hp hb)
theorem PJ.set (i : Int) (ht : TR w0 B p T v l n A c x) (hy : ∀ q, y q < 256) (h : PJ w0 B p T v l n A n (setX n x i y) 0 wj) :
    Calls Tryd.prog 11 #[tpV T, .int .i64 i, rootV y] wj fun e w' => ∃ r, e = .returned r ∧ r = .int .i64 ((setK n i : Nat) : Int) ∧ PJ w0 B p T v l n A n (setX n x i y) 1 w' := by
  refine (tset_any v B T n i x y wj (ht.tm.below h) ht.st hy).mono ?_
  rintro e w2 ⟨v', he, h1, h2, h3, h4, h5⟩
  exact ⟨_, he, rfl, v', h1, (TStep.refl h).trans h2, h3, h5, h4⟩
theorem PJ.rset (i : Int) (ht : TR w0 B p T v l n A c x) (hn : n ≤ 1073741824) (hy : ∀ q, y q < 256) (h : PJ w0 B p T v l n A n (setX n x i y) 1 wj) :
    Calls Tryd.prog 20 #[.pointer (some ⟨p, 0, none⟩), .int .i64 i, rootV y] wj fun e w' => ∃ r, e = .returned r ∧ r = .int .i64 ((setK n i : Nat) : Int) ∧ PJ w0 B p T v l n A n (setX n x i y) 2 w' := by
  obtain ⟨v', h1, h2, h3, h4, h5⟩ := h
  refine (rset_any p l n c A x y i wj (ht.rm1 h2) hn).mono ?_
  rintro e w2 ⟨A', c', he, k1, k2, k3⟩
  exact ⟨_, he, rfl, v', A', c', Ran.both ht h1 h2 h3 k1 k2 k3 (setX_lt ht.x8 hy), h4, h5⟩
theorem PJ.app (ht : TR w0 B p T v l n A c x) (hy : ∀ q, y q < 256) (h : PJ w0 B p T v l n A (appM n l) (appX n l x y) 0 wj) :
    Calls Tryd.prog 10 #[tpV T, rootV y] wj fun e w' => ∃ r, e = .returned r ∧ r = .int .i64 ((appK n l : Nat) : Int) ∧ PJ w0 B p T v l n A (appM n l) (appX n l x y) 1 w' := by
  refine (tapp_any v B T n l x y wj (ht.tm.below h) ht.st ht.lim hy).mono ?_
  rintro e w2 ⟨v', he, h1, h2, h3, h4, h5⟩
  exact ⟨_, he, rfl, v', h1, (TStep.refl h).trans h2, h3, h5, h4⟩
theorem PJ.rapp (ht : TR w0 B p T v l n A c x) (hl : l ≤ 1073741824) (hy : ∀ q, y q < 256) (h : PJ w0 B p T v l n A (appM n l) (appX n l x y) 1 wj) :
    Calls Tryd.prog 23 #[.pointer (some ⟨p, 0, none⟩), rootV y] wj fun e w' => ∃ r, e = .returned r ∧ r = .int .i64 ((appK n l : Nat) : Int) ∧ PJ w0 B p T v l n A (appM n l) (appX n l x y) 2 w' := by
  obtain ⟨v', h1, h2, h3, h4, h5⟩ := h
  refine (rapp_any p l n c A x y wj (ht.rm1 h2) hl).mono ?_
  rintro e w2 ⟨A', c', he, k1, k2, k3⟩
  exact ⟨_, he, rfl, v', A', c', Ran.both ht h1 h2 h3 k1 k2 k3 (appX_lt ht.x8 hy), h4, h5⟩
theorem PJ.done (h : PJ w0 B p T v l n A n' x' 2 wj) : ∃ v' A' c', Ran w0 wj B p T v A v' l n' A' c' x' ∧ v'.H = v.H ∧ markN v' n' ≤ markN v n + 1 := h
end
namespace TreeRun
theorem op_k (kd ix : Nat → Int) (lf : Nat → Nat) (i : Nat) : opF kd ix lf (i * 34 + 0) = .int .i64 (kd i) := by
  unfold opF
  rw [if_pos (by omega), show (i * 34 + 0) / 34 = i by omega]
theorem op_i (kd ix : Nat → Int) (lf : Nat → Nat) (i : Nat) : opF kd ix lf (i * 34 + 1) = .int .i64 (ix i) := by
  unfold opF
  rw [if_neg (by omega), if_pos (by omega), show (i * 34 + 1) / 34 = i by omega]
/-- The leaf of call i. -/
def opL (lf : Nat → Nat) (i : Nat) : Nat → Nat := fun q => lf (i * 34 + 2 + q)
theorem op_l (kd ix : Nat → Int) (lf : Nat → Nat) (i q : Nat) (hq : q < 32) : opF kd ix lf (i * 34 + (2 + q)) = u8v (opL lf i) q := by
  unfold opF
  rw [if_neg (by omega), if_neg (by omega)]
  simp only [u8v, opL]
  rw [show i * 34 + (2 + q) = i * 34 + 2 + q by omega]
def opZf : Nat → Value := fun i => if i < 2 then .int .i64 0 else .int .u8 0
theorem op_zero : (Tryd.prog.info? 50).bind (·.zero) = some (.agg (arr 34 opZf)) := by kernel_rfl
theorem op_one (kd ix : Nat → Int) (lf : Nat → Nat) (i : Nat) : ((opF kd ix lf i).oneCell') = true := by
  unfold opF
  split
  · rfl
  · split <;> rfl
theorem op_leaf {w : World} {b i : Nat} {t : TypeId} {kd ix : Nat → Int} {lf : Nat → Nat} (h : w.rowIs b t 34 (fun j => opF kd ix lf (i * 34 + j))) : ∀ q, q < 32 → w.cell? ((⟨b, 2, none⟩ : Addr).add q) = some (u8v (opL lf i) q) := fun q hq => by
  rw [add_litO, h.cell (i := 2 + q) (by omega), op_l kd ix lf i q hq]
theorem op_ix {w : World} {b i : Nat} {t : TypeId} {kd ix : Nat → Int} {lf : Nat → Nat} (h : w.rowIs b t 34 (fun j => opF kd ix lf (i * 34 + j))) : w.cell? ⟨b, 1, none⟩ = some (.int .i64 (ix i)) := by
  rw [h.cell (i := 1) (by omega), op_i]
theorem op_kd {w : World} {b i : Nat} {t : TypeId} {kd ix : Nat → Int} {lf : Nat → Nat} (h : w.rowIs b t 34 (fun j => opF kd ix lf (i * 34 + j))) : w.cell? ⟨b, 0, none⟩ = some (.int .i64 (kd i)) := by
  rw [h.cell (i := 0) (by omega), op_k]
theorem op_size : (Tryd.prog.info? 50).map (·.size) = some 34 := by kernel_rfl
end TreeRun
end Go.Proofs.YtlcpflaofggmeaaDoor
/- The tables of sha, as they were laid. -/
namespace Go.Proofs.YtlcpflaofggmeaaDoor
set_option maxRecDepth 40000
open Go.RowKit Go.ChangeShapes Go.WideShapes Go.ChangeAt

def zsK : List Int := kList.map fun n : Nat => (n : Int)
def zsH : List Int := hList.map fun n : Nat => (n : Int)
theorem zsK_at : ∀ i, i < 64 → zsK.getD i 0 = ((kw i).toNat : Int) := by decide +kernel
theorem zsH_at : ∀ i, i < 8 → zsH.getD i 0 = ((h0 i).toNat : Int) := by decide +kernel
theorem tab_start {W : World} {rest : List (String × DataW Unit)} {ps : List MemPlace} (h : DataW.LaidVars Tryd.prog W (("pharos/sha.start", Rows.laid_pharos_sha_start) :: rest) ps) : ∀ i, i < 8 → W.cell? ⟨0, i, none⟩ = some (wv (h0 i)) := fun i hi => by
  have h' : DataW.LaidVars Tryd.prog W (("pharos/sha.start", Lib.tabData .u32 zsH) :: rest) ps := h
  have := tab_of (P := Tryd.prog) (g := 0) (t := 73) (e := 69) (n := 8) (by kernel_rfl) (by kernel_rfl) Tryd.underlying73 Tryd.underlying69 (by kernel_rfl) (by kernel_rfl) h' i hi
  rw [this, zsH_at i hi]
theorem tab_round {W : World} {rest : List (String × DataW Unit)} {ps : List MemPlace} (h : DataW.LaidVars Tryd.prog W (("pharos/sha.round", Rows.laid_pharos_sha_round) :: rest) ps) : ∀ i, i < 64 → W.cell? ⟨2, i, none⟩ = some (wv (kw i)) := fun i hi => by
  have h' : DataW.LaidVars Tryd.prog W (("pharos/sha.round", Lib.tabData .u32 zsK) :: rest) ps := h
  have := tab_of (P := Tryd.prog) (g := 2) (t := 79) (e := 69) (n := 64) (by kernel_rfl) (by kernel_rfl) Tryd.underlying79 Tryd.underlying69 (by kernel_rfl) (by kernel_rfl) h' i hi
  rw [this, zsK_at i hi]
theorem tab_constants {W : World} {rest : List (String × DataW Unit)} {ps : List MemPlace} (h : DataW.LaidVars Tryd.prog W (("pharos/pharosref02.constants", Rows.laid_pharos_pharosref02_constants) :: rest) ps) : ∀ i, i < 64 → W.cell? ⟨3, i, none⟩ = some (wv (kw i)) := fun i hi => by
  have h' : DataW.LaidVars Tryd.prog W (("pharos/pharosref02.constants", Lib.tabData .u32 zsK) :: rest) ps := h
  have := tab_of (P := Tryd.prog) (g := 3) (t := 79) (e := 69) (n := 64) (by kernel_rfl) (by kernel_rfl) Tryd.underlying79 Tryd.underlying69 (by kernel_rfl) (by kernel_rfl) h' i hi
  rw [this, zsK_at i hi]
/-- What the witness's world holds. -/
def csK : Array Value := (zsK.map (Value.int .u32)).toArray
def csH : Array Value := (zsH.map (Value.int .u32)).toArray
end Go.Proofs.YtlcpflaofggmeaaDoor
