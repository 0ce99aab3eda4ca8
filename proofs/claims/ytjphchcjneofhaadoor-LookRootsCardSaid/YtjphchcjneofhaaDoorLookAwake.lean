/- The fixed answers of package look. -/
import Derived.Test.YtjphchcjneofhaaDoorLookRef
namespace Go.Proofs.YtjphchcjneofhaaDoor
open Go.RowKit
def awParts : List (Nat × Value) := [(2, .int .u64 32000000000), (6, .int .u64 9)]
noncomputable def awCs : Array Value := (Tryd.prog.built 58 awParts).getD #[]
theorem awCs_built : Tryd.prog.built 58 awParts = some awCs := by
  have h : (Tryd.prog.built 58 awParts).isSome = true := by kernel_rfl
  unfold awCs
  cases hb : Tryd.prog.built 58 awParts with
  | none => rw [hb] at h; cases h
  | some x => rfl
theorem awCs_size : awCs.size = 86 := by kernel_rfl
noncomputable def awV : Nat → Value := fun q => awCs.getD q undef
theorem awCs_arr : awCs = arr 86 awV := by rw [← awCs_size]; exact arr_self awCs
theorem run_bsV (w : World) : (Instr.buildSlice 36 1 #[(0, .agg awCs)]).run Tryd.prog w = .ok (.slice (some ⟨w.heap.size, 0, none⟩) 1 1) (w.alloc (.cells awCs 58)) := by
  kernel_rfl
theorem awV_sc : Sc awV 58 := by
  have h : (DataW.trod (H := Unit) (fun _ => ()) Tryd.prog default 0 (fun _ => true) true 8 58 awCs.toList).isSome = true := by kernel_rfl
  obtain ⟨y, hy⟩ := Option.isSome_iff_exists.1 h
  refine TyF.sc (TyF.of_trod hy fun i v hv => ?_)
  unfold awV
  rw [Array.getElem?_toList] at hv
  simp [Array.getD, Array.getElem?_eq_some_iff] at hv ⊢
  obtain ⟨h1, h2⟩ := hv
  rw [dif_pos h1]; exact h2
noncomputable def pl49 : List (Nat × Nat) := match Tryd.prog.underlying 49 with
  | some (.struct fs) => (fs.toList.mapM fun f => (Tryd.prog.info? f.type).map fun i => (f.offset, i.size)).getD []
  | _ => []
noncomputable def z49 : Array Value := zeroOf Tryd.prog 49
theorem z49_size : z49.size = 1957 := by kernel_rfl
theorem z49_33 : z49.getD 33 undef = .int .u64 0 := by kernel_rfl
theorem z49_one : z49.toList.all (·.oneCell') = true := by kernel_rfl
theorem built49 (parts : List (Nat × Value)) : Tryd.prog.built 49 parts = Instr.fill (fun x => pl49.toArray[x]?) z49 parts := by kernel_rfl
theorem fill_cell {place : Nat → Option (Nat × Nat)} {cells : Array Value} {i off : Nat} {v : Value} {rest : List (Nat × Value)} (hp : place i = some (off, 1)) (hv : v.cells = #[v]) (ho : off < cells.size) : Instr.fill place cells ((i, v) :: rest) = Instr.fill place (cells.setIfInBounds off v) rest := by
  conv => lhs; unfold Instr.fill
  simp only [hp, hv]
  rw [if_neg (by simp; omega)]
  simp [Array.zipIdx]
noncomputable def awS (s1 s2 s3 s4 s5 : Value) : Array Value := ((((z49.setIfInBounds 721 s1).setIfInBounds 722 s2).setIfInBounds 987 s3).setIfInBounds 988 s4).setIfInBounds 1092 s5
theorem awS_built (a1 a2 a3 a4 a5 : Addr) : Tryd.prog.built 49 [(11, .slice (some a1) 1 1), (12, .slice (some a2) 1 1), (15, .slice (some a3) 1 1), (16, .slice (some a4) 1 1), (21, .slice (some a5) 1 1)] = some (awS (.slice (some a1) 1 1) (.slice (some a2) 1 1) (.slice (some a3) 1 1) (.slice (some a4) 1 1) (.slice (some a5) 1 1)) := by
  have hs := z49_size
  rw [built49, fill_cell (off := 721) (by kernel_rfl) rfl (by omega), fill_cell (off := 722) (by kernel_rfl) rfl (by simp; omega), fill_cell (off := 987) (by kernel_rfl) rfl (by simp; omega), fill_cell (off := 988) (by kernel_rfl) rfl (by simp; omega), fill_cell (off := 1092) (by kernel_rfl) rfl (by simp; omega)]
  rfl
section
variable (s1 s2 s3 s4 s5 : Value)
theorem awS_size : (awS s1 s2 s3 s4 s5).size = 1957 := by unfold awS; simp [z49_size]
theorem set_getD (cs : Array Value) (i j : Nat) (v : Value) : (cs.setIfInBounds i v).getD j undef = if i = j ∧ i < cs.size then v else cs.getD j undef := by
  simp only [Array.getD_eq_getD_getElem?, Array.getElem?_setIfInBounds]
  by_cases h : i = j
  · subst h
    by_cases h2 : i < cs.size
    · simp [h2]
    · simp [h2]
  · simp [h]
theorem awS_one (h1 : s1.oneCell' = true) (h2 : s2.oneCell' = true) (h3 : s3.oneCell' = true) (h4 : s4.oneCell' = true) (h5 : s5.oneCell' = true) : ∀ i, i < 1957 → ((awS s1 s2 s3 s4 s5).getD i undef).oneCell' = true := fun i hi => by
  have hz : (z49.getD i undef).oneCell' = true := by
    have := List.all_eq_true.1 z49_one (z49.getD i undef) (by
      have hs := z49_size
      simp [Array.getD, show i < z49.size by omega])
    exact this
  unfold awS
  simp only [set_getD]
  split
  · exact h5
  split
  · exact h4
  split
  · exact h3
  split
  · exact h2
  split
  · exact h1
  exact hz
theorem awS_33 : (awS s1 s2 s3 s4 s5).getD 33 undef = .int .u64 0 := by
  unfold awS
  simp only [set_getD]
  simp
  simpa [Array.getD_eq_getD_getElem?] using z49_33
theorem awS_721 : (awS s1 s2 s3 s4 s5).getD 721 undef = s1 := by
  unfold awS
  simp only [set_getD]
  simp [z49_size]
end
theorem z49_zero : (Tryd.prog.info? 49).bind (·.zero) = some (.agg z49) := by kernel_rfl
theorem aw_at (s1 s2 s3 s4 s5 : Value) : ∀ i, i < 1957 → (awS s1 s2 s3 s4 s5)[i]? = some ((awS s1 s2 s3 s4 s5).getD i undef) := fun i hi => arr_getD i (by rw [awS_size]; exact hi)
theorem aw_cells (s1 s2 s3 s4 s5 : Value) (h1 : s1.oneCell' = true) (h2 : s2.oneCell' = true) (h3 : s3.oneCell' = true) (h4 : s4.oneCell' = true) (h5 : s5.oneCell' = true) : ∀ i, i < 1957 → ∃ v, (awS s1 s2 s3 s4 s5)[i]? = some v ∧ v.oneCell' = true := fun i hi => ⟨_, aw_at s1 s2 s3 s4 s5 i hi, awS_one s1 s2 s3 s4 s5 h1 h2 h3 h4 h5 i hi⟩
theorem aw_below (w1 : World) : Below w1.heap.size w1 ((((w1.alloc (.cells #[.int .u64 0] 22)).alloc (.cells #[.int .u8 0] 5)).alloc (.cells #[.int .u8 0] 5)).alloc (.cells #[.int .u64 0] 22)) :=
  ((((Below.refl w1.heap.size w1).alloc (Nat.le_refl _) _).alloc (by rw [alloc_sz]; omega) _).alloc (by rw [alloc_sz, alloc_sz]; omega) _).alloc (by rw [alloc_sz, alloc_sz, alloc_sz]; omega) _
theorem aw_val : isAct awV 0 0 = true ∧ effF awV 0 = 32000000000 := ⟨by kernel_rfl, by kernel_rfl⟩
theorem sumTo_one (z : Nat → Nat) : sumTo z 1 = z 0 := Nat.zero_add _
theorem aw_sum : sumTo (aw awV 0) 1 = 32000000000 := by
  rw [sumTo_one]
  unfold aw
  rw [aw_val.1, aw_val.2]
  rfl
theorem aw_cnt : churnB (sumTo (ac awV 0) 1) = 2 := by
  rw [sumTo_one]
  unfold ac
  rw [aw_val.1]
  rfl
theorem aw_rew : rewB awV 1 0 (totB (sumTo (aw awV 0) 1)) = 11448672 := by
  have h : isq 32000000000 = 178885 := isq_eq ⟨by omega, by omega⟩
  rw [aw_sum]
  unfold rewB perB totB
  rw [if_pos (by omega), aw_val.2, if_neg (by omega), h]
theorem aw_acts : actB (nat (awV 83)) 8 (nat (awV 84)) = true ∧ actB (nat (awV 83)) 9 (nat (awV 84)) = false := ⟨by kernel_rfl, by kernel_rfl⟩
theorem aw_eff : ∀ i, i < 1 → effF awV i ≤ 32000000000 := fun i hi => by
  obtain rfl : i = 0 := by omega
  rw [aw_val.2]
  exact Nat.le_refl _
theorem aw_vok {w : World} {b1 : Nat} (s2 s3 s4 s5 : Value) {B : Nat} (hr : w.rowIs b1 58 86 awV) (hB : b1 < B) : VOk w B (fun i => (awS (.slice (some ⟨b1, 0, none⟩) 1 1) s2 s3 s4 s5).getD i undef) (some ⟨b1, 0, none⟩) 1 1 awV :=
  ⟨awS_721 _ _ _ _ _, Rd.of_row hr (Nat.le_refl _) hB, fun i hi => by
    obtain rfl : i = 0 := by omega
    exact awV_sc.congr fun q => by simp, by unfold maxLen; omega⟩

theorem wpList_bsV {ops : Array Oper} {rest : List Oper} {o : Oper} {a : Act} {w : World} {Q : Exit → Act → World → Prop} (hgd : o.guard = none) (x : Operand) (ho : o.op = .buildSlice 36 1 #[(0, x)]) (hx : a.eval x = .agg awCs)
    (hK : ∀ w', w'.rowIs w.heap.size 58 86 awV → Below w.heap.size w w' → wpList Tryd.prog ops Q rest (a.put o.dst (.slice (some ⟨w.heap.size, 0, none⟩) 1 1)) w') : wpList Tryd.prog ops Q (o :: rest) a w :=
  wpList_plain hgd fun _ hK' => by
    have hrun : (execOp a.eval o).run Tryd.prog w = .ok (.value (.slice (some ⟨w.heap.size, 0, none⟩) 1 1)) (w.alloc (.cells awCs 58)) := by
      unfold execOp
      rw [ho]
      simp only [List.map_toArray, List.map_cons, List.map_nil, hx]
      simp [run_bsV]
    unfold Oper.wp
    rw [hrun]
    exact hK' _ _ (hK _ ⟨awCs, heap_alloc_new w _, awCs_size, fun i hi => by rw [awCs_arr]; exact arr_at 86 awV i hi⟩ ((Below.refl _ _).alloc (Nat.le_refl _) _))
set_option maxRecDepth 20000 in
set_option maxHeartbeats 4000000 in
theorem awake_any (w : World) : Calls Tryd.prog 4 #[] w fun r w' => r = .returned (.bool true) ∧ Below w.heap.size w w' := by
  go_enter Tryd.func4, Tryd.ntmps4
  go_upto_region 2 with (first
    | (refine wpList_build_as rfl 58 _ rfl awParts rfl awCs awCs_built ?_)
    | (refine wpList_bsV rfl _ rfl rfl ?_; intro w1 hr1 hb1; have HR1 := Lib.hid hr1; have HB1 := Lib.hid hb1; clear hr1 hb1)
    | (refine wpList_build_as rfl 49 #[(11, .tmp 5), (12, .tmp 6), (15, .tmp 7), (16, .tmp 8), (21, .tmp 9)] rfl [(11, .slice (some ⟨w.heap.size, 0, none⟩) 1 1), (12, .slice (some ⟨w1.heap.size, 0, none⟩) 1 1), (15, .slice (some ⟨w1.heap.size + 1, 0, none⟩) 1 1), (16, .slice (some ⟨w1.heap.size + 1 + 1, 0, none⟩) 1 1), (21, .slice (some ⟨w1.heap.size + 1 + 1 + 1, 0, none⟩) 1 1)] rfl (awS (.slice (some ⟨w.heap.size, 0, none⟩) 1 1) (.slice (some ⟨w1.heap.size, 0, none⟩) 1 1) (.slice (some ⟨w1.heap.size + 1, 0, none⟩) 1 1) (.slice (some ⟨w1.heap.size + 1 + 1, 0, none⟩) 1 1) (.slice (some ⟨w1.heap.size + 1 + 1 + 1, 0, none⟩) 1 1)) (awS_built ⟨w.heap.size, 0, none⟩ ⟨w1.heap.size, 0, none⟩ ⟨w1.heap.size + 1, 0, none⟩ ⟨w1.heap.size + 1 + 1, 0, none⟩ ⟨w1.heap.size + 1 + 1 + 1, 0, none⟩) ?_; have HBX := Lib.hid (aw_below w1); generalize ((((w1.alloc (.cells #[.int .u64 0] 22)).alloc (.cells #[.int .u8 0] 5)).alloc (.cells #[.int .u8 0] 5)).alloc (.cells #[.int .u64 0] 22)) = wX at *)
    | (refine wpList_new rfl rfl 49 49 1 (.tmp 10) rfl rfl rfl 1957 z49 z49_zero z49_size (awS (.slice (some ⟨w.heap.size, 0, none⟩) 1 1) (.slice (some ⟨w1.heap.size, 0, none⟩) 1 1) (.slice (some ⟨w1.heap.size + 1, 0, none⟩) 1 1) (.slice (some ⟨w1.heap.size + 1 + 1, 0, none⟩) 1 1) (.slice (some ⟨w1.heap.size + 1 + 1 + 1, 0, none⟩) 1 1)) rfl rfl (awS_size _ _ _ _ _) (by kernel_rfl) (aw_cells _ _ _ _ _ rfl rfl rfl rfl rfl) (fun i => (awS (.slice (some ⟨w.heap.size, 0, none⟩) 1 1) (.slice (some ⟨w1.heap.size, 0, none⟩) 1 1) (.slice (some ⟨w1.heap.size + 1, 0, none⟩) 1 1) (.slice (some ⟨w1.heap.size + 1 + 1, 0, none⟩) 1 1) (.slice (some ⟨w1.heap.size + 1 + 1 + 1, 0, none⟩) 1 1)).getD i undef) (aw_at _ _ _ _ _) ?_; intro w2 hr2 hb2; have HR2 := Lib.hid hr2; have HB2 := Lib.hid hb2; clear hr2 hb2; simp only [Act.put, List.setIfInBounds_toArray, List.set_cons_succ, List.set_cons_zero]))
  have HV2 := Lib.hid (aw_vok (.slice (some ⟨w1.heap.size, 0, none⟩) 1 1) (.slice (some ⟨w1.heap.size + 1, 0, none⟩) 1 1) (.slice (some ⟨w1.heap.size + 1 + 1, 0, none⟩) 1 1) (.slice (some ⟨w1.heap.size + 1 + 1 + 1, 0, none⟩) 1 1) (row_below HR1.out (HBX.out.trans (HB2.out.mono HBX.out.size)) HR1.out.lt) (Nat.lt_of_lt_of_le HR1.out.lt (Nat.le_trans HBX.out.size HB2.out.size)))
  have h33 := awS_33 (.slice (some ⟨w.heap.size, 0, none⟩) 1 1) (.slice (some ⟨w1.heap.size, 0, none⟩) 1 1) (.slice (some ⟨w1.heap.size + 1, 0, none⟩) 1 1) (.slice (some ⟨w1.heap.size + 1 + 1, 0, none⟩) 1 1) (.slice (some ⟨w1.heap.size + 1 + 1 + 1, 0, none⟩) 1 1)
  have HBW : Hid (Below w.heap.size w w2) := Lib.hid (HB1.out.trans ((HBX.out.trans (HB2.out.mono HBX.out.size)).mono HB1.out.size))
  have HRV : Hid (w2.rowIs w.heap.size 58 86 awV) := Lib.hid (row_below HR1.out (HBX.out.trans (HB2.out.mono HBX.out.size)) HR1.out.lt)
  generalize (awS (.slice (some ⟨w.heap.size, 0, none⟩) 1 1) (.slice (some ⟨w1.heap.size, 0, none⟩) 1 1) (.slice (some ⟨w1.heap.size + 1, 0, none⟩) 1 1) (.slice (some ⟨w1.heap.size + 1 + 1, 0, none⟩) 1 1) (.slice (some ⟨w1.heap.size + 1 + 1 + 1, 0, none⟩) 1 1)) = cS at *
  obtain ⟨FS, hFS⟩ : ∃ FS : Nat → Value, FS = fun i => cS.getD i undef := ⟨_, rfl⟩
  rw [← hFS] at HV2 HR2
  have h33b : FS 33 = .int .u64 ((0 : Nat) : Int) := by rw [hFS]; exact h33
  have H33 := Lib.hid h33b
  clear h33 h33b
  clear hFS HR1 HB1 HBX HB2
  generalize wX.heap.size = b at *
  have ROWS : Hid (∀ wz, Below w2.heap.size w2 wz → wz.rowIs b 49 1957 FS) := Lib.hid (fun wz hz => row_below HR2.out hz HR2.out.lt)
  have ROWV : Hid (∀ wz, Below w2.heap.size w2 wz → wz.rowIs w.heap.size 58 86 awV) := Lib.hid (fun wz hz => row_below HRV.out hz HRV.out.lt)
  have C721 : Hid (∀ wz, Below w2.heap.size w2 wz → wz.cell? ⟨b, 721, none⟩ = some (.slice (some ⟨w.heap.size, 0, none⟩) 1 1)) := Lib.hid (fun wz hz => ((ROWS.out wz hz).cell (by omega)).trans (congrArg some HV2.out.f))
  have VOKS : Hid (∀ wz, Below w2.heap.size w2 wz → VOk wz w2.heap.size FS (some ⟨w.heap.size, 0, none⟩) 1 1 awV) := Lib.hid (fun wz hz => HV2.out.below hz)
  have hw2 : Below w2.heap.size w2 w2 := Below.refl _ _
  clear HR2 HRV HV2
  have tok := Tok.mk 1
  go_upto_region 3 with (first
    | (refine wpList_load_rd rfl 49 _ rfl 1957 _ Tryd.underlying49 rfl (by kernel_rfl) ⟨b, 0, none⟩ rfl FS (fun i hi => by rw [add_lit0]; exact (ROWS.out _ (by assumption)).cell hi) ?_)
    | (go_at_call 12; refine (reward_look FS _ 1 1 awV 0 0 rfl 0 (by omega) _ H33.out (by omega) ((VOKS.out _ (by assumption)).more (Below.size (by assumption))) aw_eff (by omega)).mono ?_; rintro r w3 ⟨hr, hb3⟩; rw [aw_rew, show rewE 1 0 = 0 from rfl] at hr; subst hr; have hw3 : Below w2.heap.size w2 w3 := Below.trans (by assumption) (hb3.mono (Below.size (by assumption))); have h7213 : w3.cell? ⟨b, 721, none⟩ = some (.slice (some ⟨w.heap.size, 0, none⟩) 1 1) := (C721.out _ hw3); clear hb3))
  go_wp2_with (first
    | (refine wpList_load_rd rfl 58 _ rfl 86 _ Tryd.underlying58 rfl (by kernel_rfl) ⟨w.heap.size, 0, none⟩ rfl awV (fun i hi => by rw [add_lit0]; exact (ROWV.out _ (by assumption)).cell hi) ?_)
    | (refine wpList_load_rdG rfl rfl rfl 58 _ rfl 86 _ Tryd.underlying58 rfl (by kernel_rfl) ⟨w.heap.size, 0, none⟩ rfl awV (fun i hi => by rw [add_lit0]; exact (ROWV.out _ (by assumption)).cell hi) ?_)
    | (refine wpList_load_rdG rfl rfl rfl 49 _ rfl 1957 _ Tryd.underlying49 rfl (by kernel_rfl) ⟨b, 0, none⟩ rfl FS (fun i hi => by rw [add_lit0]; exact (ROWS.out _ (by assumption)).cell hi) ?_)
    | (go_at_call 13; have hx : Tok 1 := (by assumption); clear hx tok; refine (active_look awV awV_sc 8 _).mono ?_; rintro r w4 ⟨hr, hb4⟩; rw [aw_acts.1] at hr; subst hr; have hw4 : Below w2.heap.size w2 w4 := Below.trans (by assumption) (hb4.mono (Below.size (by assumption))); have h7214 : w4.cell? ⟨b, 721, none⟩ = some (.slice (some ⟨w.heap.size, 0, none⟩) 1 1) := (C721.out _ hw4); clear hb4; have tok2 := Tok.mk 2)
    | (go_at_call 13; have hx : Tok 2 := (by assumption); clear hx tok2; refine (active_look awV awV_sc 9 _).mono ?_; rintro r w5 ⟨hr, hb5⟩; rw [aw_acts.2] at hr; subst hr; have hw5 : Below w2.heap.size w2 w5 := Below.trans (by assumption) (hb5.mono (Below.size (by assumption))); have h7215 : w5.cell? ⟨b, 721, none⟩ = some (.slice (some ⟨w.heap.size, 0, none⟩) 1 1) := (C721.out _ hw5); clear hb5)
    | (go_at_call 14; refine (churn_look FS _ 1 1 awV 0 0 rfl _ H33.out (by omega) ((VOKS.out _ (by assumption)).more (Below.size (by assumption))) aw_eff (by omega)).mono ?_; rintro r w6 ⟨hr, hb6⟩; rw [aw_cnt] at hr; subst hr; have hw6 : Below w2.heap.size w2 w6 := Below.trans (by assumption) (hb6.mono (Below.size (by assumption))); have h7216 : w6.cell? ⟨b, 721, none⟩ = some (.slice (some ⟨w.heap.size, 0, none⟩) 1 1) := (C721.out _ hw6); clear hb6))
  go_ret
  exact ⟨rfl, HBW.out.trans (hw6.mono HBW.out.size)⟩
end Go.Proofs.YtjphchcjneofhaaDoor
