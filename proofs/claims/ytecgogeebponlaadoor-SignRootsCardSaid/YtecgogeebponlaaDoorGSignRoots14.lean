/- Part 14 of what the proof of SignRoots stands on: Hash, HashU64, Fold, StorePart, Pow2. -/
import Derived.Test.YtecgogeebponlaaDoorGSignRoots12
import Derived.Test.YtecgogeebponlaaDoorGSignRoots13
import Derived.Laws.CopyRow
/- wire.Hash: chunks that are gathered. -/
namespace Go.Proofs.YtecgogeebponlaaDoor
set_option maxRecDepth 40000
open Go.RowKit
theorem OwnZ.hs {w0 w : World} {rows : List RowSpec} {base z n c : Nat} {e : TypeId} {A : Option Addr} {f : Nat → Value} (h : OwnZ w0 base e z A n c f) (hs : HS w0 w rows) (hne : ∀ ad, A = some ad → ∀ r ∈ rows, r.b ≠ ad.block) : OwnZ w base e z A n c f := by
  obtain ⟨h1, h2⟩ := h
  refine ⟨h1, ?_⟩
  rcases h2 with h2 | ⟨g, cap, cur, hv, hg, hh, r⟩
  · exact .inl h2
  · refine .inr ⟨g, cap, cur, hv, hg, ?_, r⟩
    have hA : A = some ⟨g, 0, none⟩ := by injection hv
    rw [hs.block g (Array.getElem?_eq_some_iff.1 hh).1 (fun r hr => hne _ hA r hr)]
    exact hh
/-- What a Hash's cells hold. -/
def hashF (A : Option Addr) (n c : Nat) : Nat → Value := fun i => if i = 0 then .slice A n c else .int .i64 0
/-- At g lies a Hash that has gathered n chunks that read as x. -/
def HashIs (w : World) (base g n : Nat) (x : Nat → Nat) : Prop := ∃ A c, w.rowIs g 79 2 (hashF A n c) ∧ OwnZ w base 24 32 A n c (u8v x) ∧ (∀ ad, A = some ad → ad.block ≠ g)
theorem wp_ex {P : Program} {o : Oper} {a : Act} {w : World} {K : Act → World → Prop} {Q : Exit → Act → World → Prop} (v : Value) (h : (execOp a.eval o).run P w = .ok (.value v) w) (hK : K (a.put o.dst v) w) : o.wp P a w K Q := by
  unfold Oper.wp
  rw [h]
  exact hK
theorem cat_h {n : Nat} {x r : Nat → Nat} : ∀ i, i < (n + 1) * 32 → catF (n * 32) (u8v x) (u8v r) i = u8v (catN (n * 32) x r) i := fun i _ => by
  simp only [catF, u8v, catN]; split <;> rfl
theorem ld_sl (a : Addr) (v : Value) (w : World) (h : w.cell? a = some v) : (Instr.loadAt 32 (.pointer (some a))).run Tryd.prog w = .ok v w := by
  simp [go_sem, h]
theorem ex_ldsl {o : Oper} {a : Act} {x : Operand} {ad : Addr} {v : Value} {w : World} (ho : o.op = .load 32 x) (hx : a.eval x = .pointer (some ad)) (h : (Instr.loadAt 32 (.pointer (some ad))).run Tryd.prog w = .ok v w) : (execOp a.eval o).run Tryd.prog w = .ok (.value v) w := by
  unfold execOp
  rw [ho]
  simp only [hx]
  simp [h]
theorem ex_ldroot {o : Oper} {a : Act} {x : Operand} {b : Nat} {r : Nat → Nat} (ho : o.op = .load 24 x) (hx : a.eval x = .pointer (some ⟨b, 0, none⟩)) (w : World) (h : w.rowIs b 24 32 (u8v r)) : (execOp a.eval o).run Tryd.prog w = .ok (.value (rootV r)) w := by
  have h2 := run_loadAt_rd (P := Tryd.prog) w ⟨b, 0, none⟩ 32 24 _ (u8v r) (fun i hi => by rw [add_lit0]; exact h.cell hi) Tryd.underlying24 rfl (by kernel_rfl)
  unfold execOp
  rw [ho]
  simp only [hx]
  simp [h2]
theorem ord_two {P : Program} {ops : Array Oper} {Q : Exit → Act → World → Prop} {md : Region.Mode} {i j fuel : Nat} {o o' : Oper} {listed : Array Bool} {a : Act} {w : World} (hi : ops.toList[i]? = some o) (hj : ops.toList[j]? = some o') (hr : Region.ready md ops listed = [i, j]) (hg : o.guard = none) (hg' : o'.guard = none)
    (h : ∀ K : Act → World → Prop, (∀ a w, wpAny P md ops Q fuel (listed.setIfInBounds i true) a w → K a w) → o.wp P a w K Q)
    (h' : ∀ K : Act → World → Prop, (∀ a w, wpAny P md ops Q fuel (listed.setIfInBounds j true) a w → K a w) → o'.wp P a w K Q) : wpAny P md ops Q (fuel + 1) listed a w :=
  wpAny_ready (rs := [i, j]) hr (by simp) (AllReady.cons (by rw [← Array.getElem?_toList]; exact hi) (fun K hK => by rw [if_pos (by simp [Region.wanted, hg])]; exact h K hK) (AllReady.cons (by rw [← Array.getElem?_toList]; exact hj) (fun K hK => by rw [if_pos (by simp [Region.wanted, hg'])]; exact h' K hK) AllReady.nil))
theorem st_sl (a : Addr) (A : Option Addr) (n c : Nat) (v : Value) (w : World) (h : w.cell? a = some v) (hf : w.frozen? a = false) : (Instr.storeAt 32 (.pointer (some a)) (.slice A n c)).run Tryd.prog w = .ok () (w.setCell a (.slice A n c)) := by
  simp [go_sem, h, hf]
set_option maxHeartbeats 4000000 in
theorem put_look (B base g n : Nat) (x r : Nat → Nat) (w : World) (hH : HashIs w base g n x) (hBb : B ≤ base) (hBg : B ≤ g) (hbw : base ≤ w.heap.size) (hn : n ≤ 1099511627776) :
    Calls Tryd.prog 32 #[.pointer (some ⟨g, 0, none⟩), rootV r, .int .i64 0] w fun e w' => e = .returned (.tuple #[]) ∧ HashIs w' base g (n + 1) (catN (n * 32) x r) ∧ Below B w w' := by
  obtain ⟨A, c, hr, ho, hne⟩ := hH
  have HO := Lib.hid ho
  have HNe := Lib.hid hne
  have hgl := hr.lt
  have hBw : B ≤ w.heap.size := Nat.le_trans hBb hbw
  have HS0 := Lib.hid ((HS.nil w).take hr (fun r hr => by cases hr))
  clear hr ho hne
  go_enter Tryd.func32, Tryd.ntmps32
  go_wp2_with (first
    | (refine wpList_boxL rfl 24 _ 4 rfl rfl HS0.out 32 (u8v r) rfl ?_; intro b4 w4 hb4 hc4 hs4; have c1 : w4.cell? ⟨g, 1, none⟩ = some (.int .i64 0) := hs4.cell 1 1 rfl (by show 1 < 2; omega); have f1 := hs4.frozen 1 1 rfl; have HS4 := Lib.hid hs4; clear hs4))
  have hs := (HS4.out.set 1 1 rfl (.int .i64 0)).congr 1 rfl (g := hashF A n c) (fun i hi => by
    by_cases e : i = 1
    · subst e; rw [if_pos rfl]; rfl
    · rw [if_neg e])
  refine HS.go hs (fun wa hs => ?_)
  have hA : HS w wa [⟨b4, 24, 32, u8v r⟩, ⟨g, 79, 2, hashF A n c⟩] := hs
  have HA := Lib.hid hA
  have hsz := hA.size
  have HOa := Lib.hid (HO.out.hs hA (fun ad e => by have := HNe.out ad e; have h2 := (HO.out.base_le ad e).2; simp; omega))
  have HWa := Lib.hid (hA.old hBw (by simp; omega))
  clear hs hA HS0 HS4
  refine ord_enter (n := 11) (by kernel_rfl) (by kernel_rfl) ?_
  have HA2 := Lib.hid HA.out.drew
  have HOa2 : Hid (OwnZ wa.drew base 24 32 A n c (u8v x)) := Lib.hid HOa.out
  have HWa2 : Hid (Below B w wa.drew) := Lib.hid ⟨HWa.out.os, HWa.out.tape, HWa.out.output, HWa.out.size, HWa.out.block⟩
  have hsz2 : w.heap.size ≤ wa.drew.heap.size := hsz
  clear HA HOa HWa hsz
  have HA := HA2
  have HOa := HOa2
  have HWa := HWa2
  have hsz := hsz2
  clear HA2 HOa2 HWa2 hsz2
  generalize wa.drew = wv at HA HOa HWa hsz ⊢
  refine ord_take (i := 0) (.pointer (some ⟨g, 0, none⟩)) rfl (by kernel_rfl) (by kernel_rfl) (by kernel_rfl) rfl (fun _ _ _ h => h) (ex_move (.inl rfl) rfl) ?_
  refine ord_take (i := 1) (.pointer (some ⟨g, 0, none⟩)) rfl (by kernel_rfl) (by kernel_rfl) (by kernel_rfl) rfl (fun _ _ _ h => h) (ex_move (.inl rfl) rfl) ?_
  refine ord_take (i := 2) (.pointer (some ⟨g, 0, none⟩)) rfl (by kernel_rfl) (by kernel_rfl) (by kernel_rfl) rfl (fun _ _ _ h => h) (ex_nil rfl rfl) ?_
  refine ord_take (i := 3) (.pointer (some ⟨g, 0, none⟩)) rfl (by kernel_rfl) (by kernel_rfl) (by kernel_rfl) rfl (fun _ _ _ h => h) (ex_fld rfl rfl (fun w => by simp [go_sem])) ?_
  simp only [Act.put, List.setIfInBounds_toArray, List.set_cons_succ, List.set_cons_zero]
  refine ord_two (i := 4) (j := 5) rfl rfl (by kernel_rfl) rfl rfl (fun K hK => ?_) (fun K hK => ?_)
  · refine wp_ex (.slice A n c) (ex_ldsl rfl rfl (ld_sl _ _ wv ((HA.out.row 1 rfl).cell (i := 0) (by show 0 < 2; omega)))) ?_
    refine hK _ _ ?_
    clear hK
    simp only [Act.put, List.setIfInBounds_toArray, List.set_cons_succ, List.set_cons_zero]
    refine ord_step (i := 5) rfl (by kernel_rfl) rfl (fun K hK => ?_)
    refine wp_ex (rootV r) (ex_ldroot (r := r) rfl rfl wv (HA.out.row 0 rfl)) ?_
    refine hK _ _ ?_
    clear hK
    simp only [Act.put, List.setIfInBounds_toArray, List.set_cons_succ, List.set_cons_zero]
    refine ord_step (i := 6) rfl (by kernel_rfl) rfl (fun K hK => ?_)
    refine wp_bs1L Tryd.underlying32 (z := 32) (by kernel_rfl) (by omega) (by omega) (v0 := .agg (Array.replicate 32 (.int .u8 0))) (by kernel_rfl) _ rfl (u8v r) rfl (HS.nil wv) ?_
    intro b21 wl hb21 _ hl
    have HL := Lib.hid hl
    clear hl
    refine hK _ _ ?_
    clear hK
    simp only [Act.put, List.setIfInBounds_toArray, List.set_cons_succ, List.set_cons_zero]
    have hwl := HL.out
    have hb := hwl.out (by simp; omega)
    have ho' := HOa.out.all hb
    have hr21 := Rd.of_row (hwl.row 0 rfl) (Nat.le_refl _) (hwl.lt 0 rfl)
    have hbw' : base ≤ wl.heap.size := Nat.le_trans hbw (Nat.le_trans hsz hb.size)
    have hwb := HWa.out.trans (hb.mono (Nat.le_trans hBw hsz))
    have hrg : wl.rowIs g 79 2 (hashF A n c) := row_below (HA.out.row 1 rfl) hb (HA.out.row 1 rfl).lt
    refine ord_step (i := 7) rfl (by kernel_rfl) rfl (fun K hK => ?_)
    refine wp_appZ wl (.tmp 19) (.tmp 21) 32 base (z := .agg (Array.replicate 32 (.int .u8 0))) (k := 32) (bytes := 32) (by kernel_rfl) Tryd.underlying32 (by rfl) (by omega) rfl (n + 1) (u8v (catN (n * 32) x r)) rfl rfl ho' hr21 (fun _ _ => rfl) rfl cat_h ⟨by omega, by omega⟩ hbw' ?_
    intro A22 c22 w22 ho22 hg22 ha22
    have hrg2 := hrg.of_block (hg22.block g hrg.lt (fun e => by
      cases A with
      | none => cases e
      | some ad => injection e with e; exact HNe.out ad rfl e.symm))
    have hw22 := below_app hwb hg22 (Nat.le_trans hBb hbw') (fun ad e => Nat.le_trans hBb (HO.out.base_le ad e).1)
    have hne22 : ∀ ad, A22 = some ad → ad.block ≠ g := fun ad e => by
      rcases ha22 ad e with h | h
      · cases A with
        | none => cases h
        | some ad' => injection h with h; rw [h]; exact HNe.out ad' rfl
      · have := hrg.lt; omega
    have HO22 := Lib.hid ho22
    clear ho' hbw' hwb hrg hg22 ha22 ho22 hb hr21 hwl
    refine hK _ _ ?_
    clear hK
    simp only [Act.put, List.setIfInBounds_toArray, List.set_cons_succ, List.set_cons_zero]
    refine ord_step (i := 8) rfl (by kernel_rfl) rfl (fun K hK => ?_)
    refine wp_ex (.pointer (some ⟨g, 0, none⟩)) (ex_nil rfl rfl _) ?_
    refine hK _ _ ?_
    clear hK
    simp only [Act.put, List.setIfInBounds_toArray, List.set_cons_succ, List.set_cons_zero]
    refine ord_step (i := 9) rfl (by kernel_rfl) rfl (fun K hK => ?_)
    refine wp_ex (.pointer (some ⟨g, 0, none⟩)) (ex_fld rfl rfl (fun w => by simp [go_sem]) _) ?_
    refine hK _ _ ?_
    clear hK
    simp only [Act.put, List.setIfInBounds_toArray, List.set_cons_succ, List.set_cons_zero]
    refine ord_step (i := 10) rfl (by kernel_rfl) rfl (fun K hK => ?_)
    refine wp_store rfl rfl (v := .slice A22 (n + 1) c22) rfl rfl (st_sl ⟨g, 0, none⟩ A22 (n + 1) c22 _ w22 (hrg2.cell (i := 0) (by show 0 < 2; omega)) (hrg2.frozen 0)) ?_
    refine hK _ _ (wpAny_done (by kernel_rfl) ?_ _)
    clear hK
    have hg := grown_setCell (World.grownBy.refl w22 (some g)) (.inl rfl) (.slice A22 (n + 1) c22) (p := ⟨g, 0, none⟩)
    have hr3 := (hrg2.set 0 (.slice A22 (n + 1) c22)).congr (g := hashF A22 (n + 1) c22) (fun i hi => by
      by_cases e : i = 0
      · subst e; rfl
      · show (if i = 0 then _ else hashF A n c i) = hashF A22 (n + 1) c22 i
        rw [if_neg e]; unfold hashF; rw [if_neg e, if_neg e])
    have ho3 := HO22.out.kept hg (fun ad e h => by injection h with h; exact hne22 ad e h)
    have hw3 := hw22.grown hg (Nat.le_trans hBw hw22.size) (fun k hk => by injection hk with hk; omega)
    go_wp2_with fail
    go_end0
    exact ⟨rfl, ⟨A22, c22, hr3, ho3, hne22⟩, hw3⟩
  · refine wp_ex (rootV r) (ex_ldroot (r := r) rfl rfl wv (HA.out.row 0 rfl)) ?_
    refine hK _ _ ?_
    clear hK
    simp only [Act.put, List.setIfInBounds_toArray, List.set_cons_succ, List.set_cons_zero]
    refine ord_two (i := 4) (j := 6) rfl rfl (by kernel_rfl) rfl rfl (fun K hK => ?_) (fun K hK => ?_)
    · refine wp_ex (.slice A n c) (ex_ldsl rfl rfl (ld_sl _ _ wv ((HA.out.row 1 rfl).cell (i := 0) (by show 0 < 2; omega)))) ?_
      refine hK _ _ ?_
      clear hK
      simp only [Act.put, List.setIfInBounds_toArray, List.set_cons_succ, List.set_cons_zero]
      refine ord_step (i := 6) rfl (by kernel_rfl) rfl (fun K hK => ?_)
      refine wp_bs1L Tryd.underlying32 (z := 32) (by kernel_rfl) (by omega) (by omega) (v0 := .agg (Array.replicate 32 (.int .u8 0))) (by kernel_rfl) _ rfl (u8v r) rfl (HS.nil wv) ?_
      intro b21 wl hb21 _ hl
      have HL := Lib.hid hl
      clear hl
      refine hK _ _ ?_
      clear hK
      simp only [Act.put, List.setIfInBounds_toArray, List.set_cons_succ, List.set_cons_zero]
      have hwl := HL.out
      have hb := hwl.out (by simp; omega)
      have ho' := HOa.out.all hb
      have hr21 := Rd.of_row (hwl.row 0 rfl) (Nat.le_refl _) (hwl.lt 0 rfl)
      have hbw' : base ≤ wl.heap.size := Nat.le_trans hbw (Nat.le_trans hsz hb.size)
      have hwb := HWa.out.trans (hb.mono (Nat.le_trans hBw hsz))
      have hrg : wl.rowIs g 79 2 (hashF A n c) := row_below (HA.out.row 1 rfl) hb (HA.out.row 1 rfl).lt
      refine ord_step (i := 7) rfl (by kernel_rfl) rfl (fun K hK => ?_)
      refine wp_appZ wl (.tmp 19) (.tmp 21) 32 base (z := .agg (Array.replicate 32 (.int .u8 0))) (k := 32) (bytes := 32) (by kernel_rfl) Tryd.underlying32 (by rfl) (by omega) rfl (n + 1) (u8v (catN (n * 32) x r)) rfl rfl ho' hr21 (fun _ _ => rfl) rfl cat_h ⟨by omega, by omega⟩ hbw' ?_
      intro A22 c22 w22 ho22 hg22 ha22
      have hrg2 := hrg.of_block (hg22.block g hrg.lt (fun e => by
        cases A with
        | none => cases e
        | some ad => injection e with e; exact HNe.out ad rfl e.symm))
      have hw22 := below_app hwb hg22 (Nat.le_trans hBb hbw') (fun ad e => Nat.le_trans hBb (HO.out.base_le ad e).1)
      have hne22 : ∀ ad, A22 = some ad → ad.block ≠ g := fun ad e => by
        rcases ha22 ad e with h | h
        · cases A with
          | none => cases h
          | some ad' => injection h with h; rw [h]; exact HNe.out ad' rfl
        · have := hrg.lt; omega
      have HO22 := Lib.hid ho22
      clear ho' hbw' hwb hrg hg22 ha22 ho22 hb hr21 hwl
      refine hK _ _ ?_
      clear hK
      simp only [Act.put, List.setIfInBounds_toArray, List.set_cons_succ, List.set_cons_zero]
      refine ord_step (i := 8) rfl (by kernel_rfl) rfl (fun K hK => ?_)
      refine wp_ex (.pointer (some ⟨g, 0, none⟩)) (ex_nil rfl rfl _) ?_
      refine hK _ _ ?_
      clear hK
      simp only [Act.put, List.setIfInBounds_toArray, List.set_cons_succ, List.set_cons_zero]
      refine ord_step (i := 9) rfl (by kernel_rfl) rfl (fun K hK => ?_)
      refine wp_ex (.pointer (some ⟨g, 0, none⟩)) (ex_fld rfl rfl (fun w => by simp [go_sem]) _) ?_
      refine hK _ _ ?_
      clear hK
      simp only [Act.put, List.setIfInBounds_toArray, List.set_cons_succ, List.set_cons_zero]
      refine ord_step (i := 10) rfl (by kernel_rfl) rfl (fun K hK => ?_)
      refine wp_store rfl rfl (v := .slice A22 (n + 1) c22) rfl rfl (st_sl ⟨g, 0, none⟩ A22 (n + 1) c22 _ w22 (hrg2.cell (i := 0) (by show 0 < 2; omega)) (hrg2.frozen 0)) ?_
      refine hK _ _ (wpAny_done (by kernel_rfl) ?_ _)
      clear hK
      have hg := grown_setCell (World.grownBy.refl w22 (some g)) (.inl rfl) (.slice A22 (n + 1) c22) (p := ⟨g, 0, none⟩)
      have hr3 := (hrg2.set 0 (.slice A22 (n + 1) c22)).congr (g := hashF A22 (n + 1) c22) (fun i hi => by
        by_cases e : i = 0
        · subst e; rfl
        · show (if i = 0 then _ else hashF A n c i) = hashF A22 (n + 1) c22 i
          rw [if_neg e]; unfold hashF; rw [if_neg e, if_neg e])
      have ho3 := HO22.out.kept hg (fun ad e h => by injection h with h; exact hne22 ad e h)
      have hw3 := hw22.grown hg (Nat.le_trans hBw hw22.size) (fun k hk => by injection hk with hk; omega)
      go_wp2_with fail
      go_end0
      exact ⟨rfl, ⟨A22, c22, hr3, ho3, hne22⟩, hw3⟩
    · refine wp_bs1L Tryd.underlying32 (z := 32) (by kernel_rfl) (by omega) (by omega) (v0 := .agg (Array.replicate 32 (.int .u8 0))) (by kernel_rfl) _ rfl (u8v r) rfl (HS.nil wv) ?_
      intro b21 wl hb21 _ hl
      have HL := Lib.hid hl
      clear hl
      refine hK _ _ ?_
      clear hK
      simp only [Act.put, List.setIfInBounds_toArray, List.set_cons_succ, List.set_cons_zero]
      refine ord_step (i := 4) rfl (by kernel_rfl) rfl (fun K hK => ?_)
      refine wp_ex (.slice A n c) (ex_ldsl rfl rfl (ld_sl _ _ wl ((row_below (HA.out.row 1 rfl) (HL.out.out (by simp; omega)) (HA.out.row 1 rfl).lt).cell (i := 0) (by show 0 < 2; omega)))) ?_
      refine hK _ _ ?_
      clear hK
      simp only [Act.put, List.setIfInBounds_toArray, List.set_cons_succ, List.set_cons_zero]
      have hwl := HL.out
      have hb := hwl.out (by simp; omega)
      have ho' := HOa.out.all hb
      have hr21 := Rd.of_row (hwl.row 0 rfl) (Nat.le_refl _) (hwl.lt 0 rfl)
      have hbw' : base ≤ wl.heap.size := Nat.le_trans hbw (Nat.le_trans hsz hb.size)
      have hwb := HWa.out.trans (hb.mono (Nat.le_trans hBw hsz))
      have hrg : wl.rowIs g 79 2 (hashF A n c) := row_below (HA.out.row 1 rfl) hb (HA.out.row 1 rfl).lt
      refine ord_step (i := 7) rfl (by kernel_rfl) rfl (fun K hK => ?_)
      refine wp_appZ wl (.tmp 19) (.tmp 21) 32 base (z := .agg (Array.replicate 32 (.int .u8 0))) (k := 32) (bytes := 32) (by kernel_rfl) Tryd.underlying32 (by rfl) (by omega) rfl (n + 1) (u8v (catN (n * 32) x r)) rfl rfl ho' hr21 (fun _ _ => rfl) rfl cat_h ⟨by omega, by omega⟩ hbw' ?_
      intro A22 c22 w22 ho22 hg22 ha22
      have hrg2 := hrg.of_block (hg22.block g hrg.lt (fun e => by
        cases A with
        | none => cases e
        | some ad => injection e with e; exact HNe.out ad rfl e.symm))
      have hw22 := below_app hwb hg22 (Nat.le_trans hBb hbw') (fun ad e => Nat.le_trans hBb (HO.out.base_le ad e).1)
      have hne22 : ∀ ad, A22 = some ad → ad.block ≠ g := fun ad e => by
        rcases ha22 ad e with h | h
        · cases A with
          | none => cases h
          | some ad' => injection h with h; rw [h]; exact HNe.out ad' rfl
        · have := hrg.lt; omega
      have HO22 := Lib.hid ho22
      clear ho' hbw' hwb hrg hg22 ha22 ho22 hb hr21 hwl
      refine hK _ _ ?_
      clear hK
      simp only [Act.put, List.setIfInBounds_toArray, List.set_cons_succ, List.set_cons_zero]
      refine ord_step (i := 8) rfl (by kernel_rfl) rfl (fun K hK => ?_)
      refine wp_ex (.pointer (some ⟨g, 0, none⟩)) (ex_nil rfl rfl _) ?_
      refine hK _ _ ?_
      clear hK
      simp only [Act.put, List.setIfInBounds_toArray, List.set_cons_succ, List.set_cons_zero]
      refine ord_step (i := 9) rfl (by kernel_rfl) rfl (fun K hK => ?_)
      refine wp_ex (.pointer (some ⟨g, 0, none⟩)) (ex_fld rfl rfl (fun w => by simp [go_sem]) _) ?_
      refine hK _ _ ?_
      clear hK
      simp only [Act.put, List.setIfInBounds_toArray, List.set_cons_succ, List.set_cons_zero]
      refine ord_step (i := 10) rfl (by kernel_rfl) rfl (fun K hK => ?_)
      refine wp_store rfl rfl (v := .slice A22 (n + 1) c22) rfl rfl (st_sl ⟨g, 0, none⟩ A22 (n + 1) c22 _ w22 (hrg2.cell (i := 0) (by show 0 < 2; omega)) (hrg2.frozen 0)) ?_
      refine hK _ _ (wpAny_done (by kernel_rfl) ?_ _)
      clear hK
      have hg := grown_setCell (World.grownBy.refl w22 (some g)) (.inl rfl) (.slice A22 (n + 1) c22) (p := ⟨g, 0, none⟩)
      have hr3 := (hrg2.set 0 (.slice A22 (n + 1) c22)).congr (g := hashF A22 (n + 1) c22) (fun i hi => by
        by_cases e : i = 0
        · subst e; rfl
        · show (if i = 0 then _ else hashF A n c i) = hashF A22 (n + 1) c22 i
          rw [if_neg e]; unfold hashF; rw [if_neg e, if_neg e])
      have ho3 := HO22.out.kept hg (fun ad e h => by injection h with h; exact hne22 ad e h)
      have hw3 := hw22.grown hg (Nat.le_trans hBw hw22.size) (fun k hk => by injection hk with hk; omega)
      go_wp2_with fail
      go_end0
      exact ⟨rfl, ⟨A22, c22, hr3, ho3, hne22⟩, hw3⟩
end Go.Proofs.YtecgogeebponlaaDoor
/- wire.Hash: a number as a chunk. (Printed by a program of mine.) -/
namespace Go.Proofs.YtecgogeebponlaaDoor
set_option maxRecDepth 40000
open Go.RowKit
namespace HashU64
theorem lay8 (v : Nat) : ∀ j, j < 32 → (if 0 ≤ j ∧ j < 0 + 8 then u8v (leB v) (j - 0) else u8v (fun _ => 0) j) = u8v (padN 8 (leB v)) j := fun j _ => by
  unfold padN
  by_cases h : j < 8
  · rw [if_pos (by omega)]; simp only [u8v]; rw [if_pos h]; rfl
  · rw [if_neg (by omega)]; simp only [u8v]; rw [if_neg h]
end HashU64
open HashU64 in
set_option maxHeartbeats 4000000 in
theorem u64_look (B base g n v : Nat) (x : Nat → Nat) (w : World) (hH : HashIs w base g n x) (hBb : B ≤ base) (hBg : B ≤ g) (hbw : base ≤ w.heap.size) (hn : n ≤ 1099511627776) :
    Calls Tryd.prog 33 #[.pointer (some ⟨g, 0, none⟩), .int .u64 (v : Int)] w fun e w' => e = .returned (.tuple #[]) ∧ HashIs w' base g (n + 1) (catN (n * 32) x (padN 8 (leB v))) ∧ Below B w w' := by
  obtain ⟨A, c, hr, ho, hne⟩ := hH
  have HO := Lib.hid ho
  have HNe := Lib.hid hne
  have hgl := hr.lt
  have hBw : B ≤ w.heap.size := Nat.le_trans hBb hbw
  have HS0 := Lib.hid ((HS.nil w).take hr (fun r hr => by cases hr))
  clear hr ho hne
  go_enter Tryd.func33, Tryd.ntmps33
  go_wp2_with (first
    | (refine wpList_allocL rfl 24 4 rfl rfl HS0.out (Array.replicate 32 (.int .u8 0)) (by kernel_rfl) 32 (u8v fun _ => 0) (by rfl) (zero_at 32 (.int .u8 0)) ?_; intro b4 w4 hb4 hc4 hs; have HS4 := Lib.hid hs; clear hs)
    | (go_at_call 42; refine (bytes_look v _).mono ?_; rintro e w5 ⟨rfl, hb⟩; have HS5 := Lib.hid (HS4.out.below hb); clear hb)
    | (refine wpList_allocL rfl 84 5 rfl rfl HS5.out (Array.replicate 8 (.int .u8 0)) (by kernel_rfl) 8 (u8v fun _ => 0) (by rfl) (zero_at 8 (.int .u8 0)) ?_; intro b5 w5b hb5 hc5 hs; have HS5b := Lib.hid hs; clear hs)
    | (refine wpList_storeH rfl 84 (.tmp 5) (.tmp 7) rfl HS5b.out 0 rfl (u8v (leB v)) rfl rfl (by kernel_rfl) (fun _ _ => rfl) ?_; intro w6 hs; have HS6 := Lib.hid hs; clear hs))
  refine wp_region_factsS (l := [_, _]) (tl := []) (B := w6.heap.size) (w0 := w6) [SF.is (.slice (some ⟨b4, 0, none⟩) (32) (32)), SF.is (.slice (some ⟨b5, 0, none⟩) (8) (8))] (by kernel_rfl) (by kernel_rfl) rfl (Nat.le_refl _) (Below.refl _ _) ⟨?_, ?_, trivial⟩ ?_
  · exact opOb_slc rfl rfl (OpK.tmp rfl) (OpKo.no) (OpKo.no) (fun w => cut_arr Tryd.underlying24 1 (by kernel_rfl) none none (0) (32) (.inl ⟨rfl, rfl⟩) (.inl ⟨rfl, rfl⟩) (by omega) (by omega) (by omega) (by omega) (by omega) (by omega))
  · exact opOb_slc rfl rfl (OpK.tmp rfl) (OpKo.no) (OpKo.no) (fun w => cut_arr Tryd.underlying84 1 (by kernel_rfl) none none (0) (8) (.inl ⟨rfl, rfl⟩) (.inl ⟨rfl, rfl⟩) (by omega) (by omega) (by omega) (by omega) (by omega) (by omega))
  · intro w' hb
    simp only [fin, SF.is, forall_eq]
    simp only [Act.put, List.setIfInBounds_toArray, List.set_cons_succ, List.set_cons_zero]
    have hs := HS6.out.below hb
    refine wp_copyL rfl Tryd.underlying39 (by kernel_rfl) hs 1 rfl 0 32 32 (Rd.of_row (hs.row 0 rfl) (Nat.le_refl _) (hs.lt 0 rfl)) (fun _ _ => rfl) 8 rfl (by omega) rfl rfl _ (lay8 v) ?_
    clear hs hb
    intro wa hs
    have hA : HS w wa [⟨b5, 84, 8, u8v (leB v)⟩, ⟨b4, 24, 32, u8v (padN 8 (leB v))⟩, ⟨g, 79, 2, hashF A n c⟩] := hs
    have HA := Lib.hid hA
    have hsz := hA.size
    have HOa := Lib.hid (HO.out.hs hA (fun ad e => by have := HNe.out ad e; have h2 := (HO.out.base_le ad e).2; simp; omega))
    have HWa := Lib.hid (hA.old hBw (by simp; omega))
    clear hs hA HS0 HS4 HS5 HS5b HS6
    simp only [seqWp]
    go_wp2_with fail
    refine ord_enter (n := 11) (by kernel_rfl) (by kernel_rfl) ?_
    have HA2 := Lib.hid HA.out.drew
    have HOa2 : Hid (OwnZ wa.drew base 24 32 A n c (u8v x)) := Lib.hid HOa.out
    have HWa2 : Hid (Below B w wa.drew) := Lib.hid ⟨HWa.out.os, HWa.out.tape, HWa.out.output, HWa.out.size, HWa.out.block⟩
    have hsz2 : w.heap.size ≤ wa.drew.heap.size := hsz
    clear HA HOa HWa hsz
    have HA := HA2
    have HOa := HOa2
    have HWa := HWa2
    have hsz := hsz2
    clear HA2 HOa2 HWa2 hsz2
    generalize wa.drew = wv at HA HOa HWa hsz ⊢
    refine ord_take (i := 0) (.pointer (some ⟨g, 0, none⟩)) rfl (by kernel_rfl) (by kernel_rfl) (by kernel_rfl) rfl (fun _ _ _ h => h) (ex_move (.inl rfl) rfl) ?_
    refine ord_take (i := 1) (.pointer (some ⟨g, 0, none⟩)) rfl (by kernel_rfl) (by kernel_rfl) (by kernel_rfl) rfl (fun _ _ _ h => h) (ex_move (.inl rfl) rfl) ?_
    refine ord_take (i := 2) (.pointer (some ⟨g, 0, none⟩)) rfl (by kernel_rfl) (by kernel_rfl) (by kernel_rfl) rfl (fun _ _ _ h => h) (ex_nil rfl rfl) ?_
    refine ord_take (i := 3) (.pointer (some ⟨g, 0, none⟩)) rfl (by kernel_rfl) (by kernel_rfl) (by kernel_rfl) rfl (fun _ _ _ h => h) (ex_fld rfl rfl (fun w => by simp [go_sem])) ?_
    simp only [Act.put, List.setIfInBounds_toArray, List.set_cons_succ, List.set_cons_zero]
    refine ord_two (i := 4) (j := 5) rfl rfl (by kernel_rfl) rfl rfl (fun K hK => ?_) (fun K hK => ?_)
    · refine wp_ex (.slice A n c) (ex_ldsl rfl rfl (ld_sl _ _ wv ((HA.out.row 2 rfl).cell (i := 0) (by show 0 < 2; omega)))) ?_
      refine hK _ _ ?_
      clear hK
      simp only [Act.put, List.setIfInBounds_toArray, List.set_cons_succ, List.set_cons_zero]
      refine ord_step (i := 5) rfl (by kernel_rfl) rfl (fun K hK => ?_)
      refine wp_ex (rootV (padN 8 (leB v))) (ex_ldroot (r := (padN 8 (leB v))) rfl rfl wv (HA.out.row 1 rfl)) ?_
      refine hK _ _ ?_
      clear hK
      simp only [Act.put, List.setIfInBounds_toArray, List.set_cons_succ, List.set_cons_zero]
      refine ord_step (i := 6) rfl (by kernel_rfl) rfl (fun K hK => ?_)
      refine wp_bs1L Tryd.underlying32 (z := 32) (by kernel_rfl) (by omega) (by omega) (v0 := .agg (Array.replicate 32 (.int .u8 0))) (by kernel_rfl) _ rfl (u8v (padN 8 (leB v))) rfl (HS.nil wv) ?_
      intro b21 wl hb21 _ hl
      have HL := Lib.hid hl
      clear hl
      refine hK _ _ ?_
      clear hK
      simp only [Act.put, List.setIfInBounds_toArray, List.set_cons_succ, List.set_cons_zero]
      have hwl := HL.out
      have hb := hwl.out (by simp; omega)
      have ho' := HOa.out.all hb
      have hr21 := Rd.of_row (hwl.row 0 rfl) (Nat.le_refl _) (hwl.lt 0 rfl)
      have hbw' : base ≤ wl.heap.size := Nat.le_trans hbw (Nat.le_trans hsz hb.size)
      have hwb := HWa.out.trans (hb.mono (Nat.le_trans hBw hsz))
      have hrg : wl.rowIs g 79 2 (hashF A n c) := row_below (HA.out.row 2 rfl) hb (HA.out.row 2 rfl).lt
      refine ord_step (i := 7) rfl (by kernel_rfl) rfl (fun K hK => ?_)
      refine wp_appZ wl (.tmp 15) (.tmp 17) 32 base (z := .agg (Array.replicate 32 (.int .u8 0))) (k := 32) (bytes := 32) (by kernel_rfl) Tryd.underlying32 (by rfl) (by omega) rfl (n + 1) (u8v (catN (n * 32) x (padN 8 (leB v)))) rfl rfl ho' hr21 (fun _ _ => rfl) rfl cat_h ⟨by omega, by omega⟩ hbw' ?_
      intro A22 c22 w22 ho22 hg22 ha22
      have hrg2 := hrg.of_block (hg22.block g hrg.lt (fun e => by
        cases A with
        | none => cases e
        | some ad => injection e with e; exact HNe.out ad rfl e.symm))
      have hw22 := below_app hwb hg22 (Nat.le_trans hBb hbw') (fun ad e => Nat.le_trans hBb (HO.out.base_le ad e).1)
      have hne22 : ∀ ad, A22 = some ad → ad.block ≠ g := fun ad e => by
        rcases ha22 ad e with h | h
        · cases A with
          | none => cases h
          | some ad' => injection h with h; rw [h]; exact HNe.out ad' rfl
        · have := hrg.lt; omega
      have HO22 := Lib.hid ho22
      clear ho' hbw' hwb hrg hg22 ha22 ho22 hb hr21 hwl
      refine hK _ _ ?_
      clear hK
      simp only [Act.put, List.setIfInBounds_toArray, List.set_cons_succ, List.set_cons_zero]
      refine ord_step (i := 8) rfl (by kernel_rfl) rfl (fun K hK => ?_)
      refine wp_ex (.pointer (some ⟨g, 0, none⟩)) (ex_nil rfl rfl _) ?_
      refine hK _ _ ?_
      clear hK
      simp only [Act.put, List.setIfInBounds_toArray, List.set_cons_succ, List.set_cons_zero]
      refine ord_step (i := 9) rfl (by kernel_rfl) rfl (fun K hK => ?_)
      refine wp_ex (.pointer (some ⟨g, 0, none⟩)) (ex_fld rfl rfl (fun w => by simp [go_sem]) _) ?_
      refine hK _ _ ?_
      clear hK
      simp only [Act.put, List.setIfInBounds_toArray, List.set_cons_succ, List.set_cons_zero]
      refine ord_step (i := 10) rfl (by kernel_rfl) rfl (fun K hK => ?_)
      refine wp_store rfl rfl (v := .slice A22 (n + 1) c22) rfl rfl (st_sl ⟨g, 0, none⟩ A22 (n + 1) c22 _ w22 (hrg2.cell (i := 0) (by show 0 < 2; omega)) (hrg2.frozen 0)) ?_
      refine hK _ _ (wpAny_done (by kernel_rfl) ?_ _)
      clear hK
      have hg := grown_setCell (World.grownBy.refl w22 (some g)) (.inl rfl) (.slice A22 (n + 1) c22) (p := ⟨g, 0, none⟩)
      have hr3 := (hrg2.set 0 (.slice A22 (n + 1) c22)).congr (g := hashF A22 (n + 1) c22) (fun i hi => by
        by_cases e : i = 0
        · subst e; rfl
        · show (if i = 0 then _ else hashF A n c i) = hashF A22 (n + 1) c22 i
          rw [if_neg e]; unfold hashF; rw [if_neg e, if_neg e])
      have ho3 := HO22.out.kept hg (fun ad e h => by injection h with h; exact hne22 ad e h)
      have hw3 := hw22.grown hg (Nat.le_trans hBw hw22.size) (fun k hk => by injection hk with hk; omega)
      go_wp2_with fail
      go_end0
      exact ⟨rfl, ⟨A22, c22, hr3, ho3, hne22⟩, hw3⟩
    · refine wp_ex (rootV (padN 8 (leB v))) (ex_ldroot (r := (padN 8 (leB v))) rfl rfl wv (HA.out.row 1 rfl)) ?_
      refine hK _ _ ?_
      clear hK
      simp only [Act.put, List.setIfInBounds_toArray, List.set_cons_succ, List.set_cons_zero]
      refine ord_two (i := 4) (j := 6) rfl rfl (by kernel_rfl) rfl rfl (fun K hK => ?_) (fun K hK => ?_)
      · refine wp_ex (.slice A n c) (ex_ldsl rfl rfl (ld_sl _ _ wv ((HA.out.row 2 rfl).cell (i := 0) (by show 0 < 2; omega)))) ?_
        refine hK _ _ ?_
        clear hK
        simp only [Act.put, List.setIfInBounds_toArray, List.set_cons_succ, List.set_cons_zero]
        refine ord_step (i := 6) rfl (by kernel_rfl) rfl (fun K hK => ?_)
        refine wp_bs1L Tryd.underlying32 (z := 32) (by kernel_rfl) (by omega) (by omega) (v0 := .agg (Array.replicate 32 (.int .u8 0))) (by kernel_rfl) _ rfl (u8v (padN 8 (leB v))) rfl (HS.nil wv) ?_
        intro b21 wl hb21 _ hl
        have HL := Lib.hid hl
        clear hl
        refine hK _ _ ?_
        clear hK
        simp only [Act.put, List.setIfInBounds_toArray, List.set_cons_succ, List.set_cons_zero]
        have hwl := HL.out
        have hb := hwl.out (by simp; omega)
        have ho' := HOa.out.all hb
        have hr21 := Rd.of_row (hwl.row 0 rfl) (Nat.le_refl _) (hwl.lt 0 rfl)
        have hbw' : base ≤ wl.heap.size := Nat.le_trans hbw (Nat.le_trans hsz hb.size)
        have hwb := HWa.out.trans (hb.mono (Nat.le_trans hBw hsz))
        have hrg : wl.rowIs g 79 2 (hashF A n c) := row_below (HA.out.row 2 rfl) hb (HA.out.row 2 rfl).lt
        refine ord_step (i := 7) rfl (by kernel_rfl) rfl (fun K hK => ?_)
        refine wp_appZ wl (.tmp 15) (.tmp 17) 32 base (z := .agg (Array.replicate 32 (.int .u8 0))) (k := 32) (bytes := 32) (by kernel_rfl) Tryd.underlying32 (by rfl) (by omega) rfl (n + 1) (u8v (catN (n * 32) x (padN 8 (leB v)))) rfl rfl ho' hr21 (fun _ _ => rfl) rfl cat_h ⟨by omega, by omega⟩ hbw' ?_
        intro A22 c22 w22 ho22 hg22 ha22
        have hrg2 := hrg.of_block (hg22.block g hrg.lt (fun e => by
          cases A with
          | none => cases e
          | some ad => injection e with e; exact HNe.out ad rfl e.symm))
        have hw22 := below_app hwb hg22 (Nat.le_trans hBb hbw') (fun ad e => Nat.le_trans hBb (HO.out.base_le ad e).1)
        have hne22 : ∀ ad, A22 = some ad → ad.block ≠ g := fun ad e => by
          rcases ha22 ad e with h | h
          · cases A with
            | none => cases h
            | some ad' => injection h with h; rw [h]; exact HNe.out ad' rfl
          · have := hrg.lt; omega
        have HO22 := Lib.hid ho22
        clear ho' hbw' hwb hrg hg22 ha22 ho22 hb hr21 hwl
        refine hK _ _ ?_
        clear hK
        simp only [Act.put, List.setIfInBounds_toArray, List.set_cons_succ, List.set_cons_zero]
        refine ord_step (i := 8) rfl (by kernel_rfl) rfl (fun K hK => ?_)
        refine wp_ex (.pointer (some ⟨g, 0, none⟩)) (ex_nil rfl rfl _) ?_
        refine hK _ _ ?_
        clear hK
        simp only [Act.put, List.setIfInBounds_toArray, List.set_cons_succ, List.set_cons_zero]
        refine ord_step (i := 9) rfl (by kernel_rfl) rfl (fun K hK => ?_)
        refine wp_ex (.pointer (some ⟨g, 0, none⟩)) (ex_fld rfl rfl (fun w => by simp [go_sem]) _) ?_
        refine hK _ _ ?_
        clear hK
        simp only [Act.put, List.setIfInBounds_toArray, List.set_cons_succ, List.set_cons_zero]
        refine ord_step (i := 10) rfl (by kernel_rfl) rfl (fun K hK => ?_)
        refine wp_store rfl rfl (v := .slice A22 (n + 1) c22) rfl rfl (st_sl ⟨g, 0, none⟩ A22 (n + 1) c22 _ w22 (hrg2.cell (i := 0) (by show 0 < 2; omega)) (hrg2.frozen 0)) ?_
        refine hK _ _ (wpAny_done (by kernel_rfl) ?_ _)
        clear hK
        have hg := grown_setCell (World.grownBy.refl w22 (some g)) (.inl rfl) (.slice A22 (n + 1) c22) (p := ⟨g, 0, none⟩)
        have hr3 := (hrg2.set 0 (.slice A22 (n + 1) c22)).congr (g := hashF A22 (n + 1) c22) (fun i hi => by
          by_cases e : i = 0
          · subst e; rfl
          · show (if i = 0 then _ else hashF A n c i) = hashF A22 (n + 1) c22 i
            rw [if_neg e]; unfold hashF; rw [if_neg e, if_neg e])
        have ho3 := HO22.out.kept hg (fun ad e h => by injection h with h; exact hne22 ad e h)
        have hw3 := hw22.grown hg (Nat.le_trans hBw hw22.size) (fun k hk => by injection hk with hk; omega)
        go_wp2_with fail
        go_end0
        exact ⟨rfl, ⟨A22, c22, hr3, ho3, hne22⟩, hw3⟩
      · refine wp_bs1L Tryd.underlying32 (z := 32) (by kernel_rfl) (by omega) (by omega) (v0 := .agg (Array.replicate 32 (.int .u8 0))) (by kernel_rfl) _ rfl (u8v (padN 8 (leB v))) rfl (HS.nil wv) ?_
        intro b21 wl hb21 _ hl
        have HL := Lib.hid hl
        clear hl
        refine hK _ _ ?_
        clear hK
        simp only [Act.put, List.setIfInBounds_toArray, List.set_cons_succ, List.set_cons_zero]
        refine ord_step (i := 4) rfl (by kernel_rfl) rfl (fun K hK => ?_)
        refine wp_ex (.slice A n c) (ex_ldsl rfl rfl (ld_sl _ _ wl ((row_below (HA.out.row 2 rfl) (HL.out.out (by simp; omega)) (HA.out.row 2 rfl).lt).cell (i := 0) (by show 0 < 2; omega)))) ?_
        refine hK _ _ ?_
        clear hK
        simp only [Act.put, List.setIfInBounds_toArray, List.set_cons_succ, List.set_cons_zero]
        have hwl := HL.out
        have hb := hwl.out (by simp; omega)
        have ho' := HOa.out.all hb
        have hr21 := Rd.of_row (hwl.row 0 rfl) (Nat.le_refl _) (hwl.lt 0 rfl)
        have hbw' : base ≤ wl.heap.size := Nat.le_trans hbw (Nat.le_trans hsz hb.size)
        have hwb := HWa.out.trans (hb.mono (Nat.le_trans hBw hsz))
        have hrg : wl.rowIs g 79 2 (hashF A n c) := row_below (HA.out.row 2 rfl) hb (HA.out.row 2 rfl).lt
        refine ord_step (i := 7) rfl (by kernel_rfl) rfl (fun K hK => ?_)
        refine wp_appZ wl (.tmp 15) (.tmp 17) 32 base (z := .agg (Array.replicate 32 (.int .u8 0))) (k := 32) (bytes := 32) (by kernel_rfl) Tryd.underlying32 (by rfl) (by omega) rfl (n + 1) (u8v (catN (n * 32) x (padN 8 (leB v)))) rfl rfl ho' hr21 (fun _ _ => rfl) rfl cat_h ⟨by omega, by omega⟩ hbw' ?_
        intro A22 c22 w22 ho22 hg22 ha22
        have hrg2 := hrg.of_block (hg22.block g hrg.lt (fun e => by
          cases A with
          | none => cases e
          | some ad => injection e with e; exact HNe.out ad rfl e.symm))
        have hw22 := below_app hwb hg22 (Nat.le_trans hBb hbw') (fun ad e => Nat.le_trans hBb (HO.out.base_le ad e).1)
        have hne22 : ∀ ad, A22 = some ad → ad.block ≠ g := fun ad e => by
          rcases ha22 ad e with h | h
          · cases A with
            | none => cases h
            | some ad' => injection h with h; rw [h]; exact HNe.out ad' rfl
          · have := hrg.lt; omega
        have HO22 := Lib.hid ho22
        clear ho' hbw' hwb hrg hg22 ha22 ho22 hb hr21 hwl
        refine hK _ _ ?_
        clear hK
        simp only [Act.put, List.setIfInBounds_toArray, List.set_cons_succ, List.set_cons_zero]
        refine ord_step (i := 8) rfl (by kernel_rfl) rfl (fun K hK => ?_)
        refine wp_ex (.pointer (some ⟨g, 0, none⟩)) (ex_nil rfl rfl _) ?_
        refine hK _ _ ?_
        clear hK
        simp only [Act.put, List.setIfInBounds_toArray, List.set_cons_succ, List.set_cons_zero]
        refine ord_step (i := 9) rfl (by kernel_rfl) rfl (fun K hK => ?_)
        refine wp_ex (.pointer (some ⟨g, 0, none⟩)) (ex_fld rfl rfl (fun w => by simp [go_sem]) _) ?_
        refine hK _ _ ?_
        clear hK
        simp only [Act.put, List.setIfInBounds_toArray, List.set_cons_succ, List.set_cons_zero]
        refine ord_step (i := 10) rfl (by kernel_rfl) rfl (fun K hK => ?_)
        refine wp_store rfl rfl (v := .slice A22 (n + 1) c22) rfl rfl (st_sl ⟨g, 0, none⟩ A22 (n + 1) c22 _ w22 (hrg2.cell (i := 0) (by show 0 < 2; omega)) (hrg2.frozen 0)) ?_
        refine hK _ _ (wpAny_done (by kernel_rfl) ?_ _)
        clear hK
        have hg := grown_setCell (World.grownBy.refl w22 (some g)) (.inl rfl) (.slice A22 (n + 1) c22) (p := ⟨g, 0, none⟩)
        have hr3 := (hrg2.set 0 (.slice A22 (n + 1) c22)).congr (g := hashF A22 (n + 1) c22) (fun i hi => by
          by_cases e : i = 0
          · subst e; rfl
          · show (if i = 0 then _ else hashF A n c i) = hashF A22 (n + 1) c22 i
            rw [if_neg e]; unfold hashF; rw [if_neg e, if_neg e])
        have ho3 := HO22.out.kept hg (fun ad e h => by injection h with h; exact hne22 ad e h)
        have hw3 := hw22.grown hg (Nat.le_trans hBw hw22.size) (fun k hk => by injection hk with hk; omega)
        go_wp2_with fail
        go_end0
        exact ⟨rfl, ⟨A22, c22, hr3, ho3, hne22⟩, hw3⟩
end Go.Proofs.YtecgogeebponlaaDoor
/- A tree's root, level by level. -/
namespace Go.Proofs.YtecgogeebponlaaDoor
set_option maxRecDepth 40000
/-- The root of 2^d chunks. -/
def fullN : Nat → (Nat → Nat) → Nat → Nat
  | 0, x => x
  | d + 1, x => shaB (catN 32 (fullN d x) (fullN d (fun i => x (2 ^ d * 32 + i)))) 64
theorem full_succ (d : Nat) (x : Nat → Nat) : fullN (d + 1) x = shaB (catN 32 (fullN d x) (fullN d (fun i => x (2 ^ d * 32 + i)))) 64 := rfl
/-- The level above: two by two. -/
def lvl (x : Nat → Nat) : Nat → Nat := fun i => shaB (catN 32 (fun q => x (2 * (i / 32) * 32 + q)) (fun q => x ((2 * (i / 32) + 1) * 32 + q))) 64 (i % 32)
theorem two_congr {a b c d : Nat → Nat} (h1 : ∀ i, i < 32 → a i = c i) (h2 : ∀ i, i < 32 → b i = d i) : shaB (catN 32 a b) 64 = shaB (catN 32 c d) 64 := shaB_congr fun i hi => by
  unfold catN
  by_cases h : i < 32
  · rw [if_pos h, if_pos h, h1 i h]
  · rw [if_neg h, if_neg h, h2 _ (by omega)]
theorem fullN_congr : ∀ (d : Nat) (x y : Nat → Nat), (∀ i, i < 2 ^ d * 32 → x i = y i) → ∀ i, i < 32 → fullN d x i = fullN d y i := by
  intro d
  induction d with
  | zero => intro x y h i hi; exact h i (by simpa using hi)
  | succ d ih =>
    intro x y h i _
    have hp : 2 ^ (d + 1) = 2 * 2 ^ d := by rw [Nat.pow_succ]; omega
    rw [full_succ d x, full_succ d y]
    rw [two_congr (ih x y (fun i hi => h i (by omega))) (ih _ _ (fun i hi => h (2 ^ d * 32 + i) (by omega)))]
theorem fullN_lvl : ∀ (d : Nat) (x : Nat → Nat) (i : Nat), i < 32 → fullN (d + 1) x i = fullN d (lvl x) i := by
  intro d
  induction d with
  | zero =>
    intro x i hi
    have e : shaB (catN 32 x (fun i => x (2 ^ 0 * 32 + i))) 64 = shaB (catN 32 (fun q => x (2 * (i / 32) * 32 + q)) (fun q => x ((2 * (i / 32) + 1) * 32 + q))) 64 :=
      two_congr (fun q _ => congrArg x (by omega)) (fun q _ => congrArg x (by omega))
    exact (congrFun e i).trans (congrArg _ (show i = i % 32 by omega))
  | succ d ih =>
    intro x i hi
    rw [full_succ (d + 1) x, full_succ d (lvl x)]
    rw [two_congr (ih x) (ih (fun i => x (2 ^ (d + 1) * 32 + i)))]
    rw [two_congr (fun i _ => rfl) (fullN_congr d (lvl (fun i => x (2 ^ (d + 1) * 32 + i))) (fun i => lvl x (2 ^ d * 32 + i)) (fun j _ => by
      have hp : 2 ^ (d + 1) = 2 * 2 ^ d := by rw [Nat.pow_succ]; omega
      unfold lvl
      rw [show (2 ^ d * 32 + j) / 32 = 2 ^ d + j / 32 by omega, show (2 ^ d * 32 + j) % 32 = j % 32 by omega]
      rw [two_congr (c := fun q => x (2 * (2 ^ d + j / 32) * 32 + q)) (d := fun q => x ((2 * (2 ^ d + j / 32) + 1) * 32 + q)) (fun q _ => congrArg x (by rw [hp]; omega)) (fun q _ => congrArg x (by rw [hp]; omega))]))]
theorem zr_full : ∀ (d : Nat) (i : Nat), i < 32 → zrN d i = fullN d (fun _ => 0) i := by
  intro d
  induction d with
  | zero => intro i _; rfl
  | succ d ih => intro i _; rw [full_succ]; unfold zrN; rw [two_congr ih ih]
theorem tree_full : ∀ (d n : Nat) (x : Nat → Nat), n ≤ 2 ^ d → ∀ i, i < 32 → treeN d n x i = fullN d (padN (n * 32) x) i := by
  intro d
  induction d with
  | zero =>
    intro n x hn i hi
    unfold treeN fullN padN
    by_cases h : n = 0
    · subst h; rw [if_pos rfl, if_neg (by omega)]; rfl
    · rw [if_neg h, if_pos (by omega)]
  | succ d ih =>
    intro n x hn i hi
    have hp : 2 ^ (d + 1) = 2 * 2 ^ d := by rw [Nat.pow_succ]; omega
    by_cases h : n = 0
    · subst h
      rw [treeN_zero, zr_full _ i hi]
      refine fullN_congr _ _ _ (fun j _ => ?_) i hi
      unfold padN; rw [if_neg (by omega)]
    · obtain ⟨m, hm⟩ : ∃ m, min (2 ^ d) n = m := ⟨_, rfl⟩
      rw [treeN_succ d n m x h hm, full_succ]
      rw [two_congr (ih m x (by omega)) (ih (n - m) _ (by omega))]
      rw [two_congr (c := fullN d (padN (n * 32) x)) (d := fullN d (fun i => padN (n * 32) x (2 ^ d * 32 + i))) (fullN_congr d _ _ (fun j hj => ?_)) (fullN_congr d _ _ (fun j hj => ?_))]
      · unfold padN
        by_cases h1 : j < m * 32
        · rw [if_pos h1, if_pos (by omega)]
        · rw [if_neg h1, if_neg (by omega)]
      · unfold padN
        by_cases h1 : j < (n - m) * 32
        · rw [if_pos h1, if_pos (by omega), show m = 2 ^ d by omega]
        · rw [if_neg h1, if_neg (by omega)]
end Go.Proofs.YtecgogeebponlaaDoor
/- A whole value laid into a part of a row. -/
namespace Go.Proofs.YtecgogeebponlaaDoor
set_option maxRecDepth 40000
open Go.RowKit
section
variable {P : Program}
theorem run_storeAt_part {w : World} {b : Nat} {t : TypeId} {n : Nat} {f : Nat → Value} (h : w.rowIs b t n f) (ty : TypeId) (o m : Nat) (g : Nat → Value) (hi : (P.info? ty).map (·.size) = some m) (hfit : o + m ≤ n) (h1 : ∀ i, i < m → (g i).oneCell' = true) :
    ∃ w1, (Instr.storeAt ty (.pointer (some ⟨b, o, none⟩)) (.agg (arr m g))).run P w = .ok () w1 ∧ w1.rowIs b t n (fun j => if o ≤ j ∧ j < o + m then g (j - o) else f j) ∧ w.grownBy w1 (some b) := by
  obtain ⟨cur, hcur, hsz, hcc⟩ := h
  cases hq : P.info? ty with
  | none => rw [hq] at hi; simp at hi
  | some i =>
    have hs : i.size = m := by rw [hq] at hi; simpa using hi
    have hl : (arr m g).toList.length = m := by simp [size_arr]
    have hrun := run_storeCells_at (P := P) b o t (arr m g).toList 0 cur w hcur (by rw [hl]; omega) (fun v hv => by
      obtain ⟨j, hj, rfl⟩ := List.mem_iff_getElem.1 hv
      have hj' : j < m := by omega
      have h2 := arr_at m g j hj'
      rw [← Array.getElem?_toList, List.getElem?_eq_getElem hj] at h2
      injection h2 with h2
      rw [h2]; exact h1 j hj')
    rw [hl] at hrun
    refine ⟨_, ?_, World.rowIs_setRow ⟨cur, hcur, hsz, hcc⟩ (cur.toList.take (o + 0) ++ (arr m g).toList ++ cur.toList.drop (o + 0 + m)).toArray (by simp [size_arr]; omega) _ (fun q hq2 => ?_), ⟨rfl, rfl, rfl, by rw [size_setRow]; exact Nat.le_refl _, fun i _ hne => by
      unfold World.setRow
      have : ¬ b = i := fun e => hne (by rw [e])
      simp [Array.getElem?_modify, this]⟩⟩
    · simp only [Instr.storeAt, Instr.sureAddr, Sem.run_bind, Sem.run_pure, Result.andThen]
      simpa [storeVar, sizeOf, typeInfo, hq, Value.cells, size_arr, hs] using hrun
    · have hci := hcc q hq2
      simp only [Nat.add_zero, List.getElem?_toArray, List.getElem?_append, List.length_take, List.length_append, hl, Array.length_toList]
      by_cases h2 : q < o
      · rw [if_neg (show ¬ (o ≤ q ∧ q < o + m) by omega)]
        rw [if_pos (show q < min o cur.size + m by omega), if_pos (show q < min o cur.size by omega), List.getElem?_take, if_pos h2, Array.getElem?_toList, hci]
      · by_cases h3 : q < o + m
        · rw [if_pos (show o ≤ q ∧ q < o + m by omega)]
          rw [if_pos (show q < min o cur.size + m by omega), if_neg (show ¬ q < min o cur.size by omega), show min o cur.size = o by omega, Array.getElem?_toList, arr_at m g _ (by omega)]
        · rw [if_neg (show ¬ (o ≤ q ∧ q < o + m) by omega)]
          rw [if_neg (show ¬ q < min o cur.size + m by omega), List.getElem?_drop, show min o cur.size = o by omega, show o + m + (q - (o + m)) = q by omega, Array.getElem?_toList, hci]
/-- A value of m cells is laid into row k from cell o on; the world is a letter. -/
theorem wp_storeP {o : Oper} {a : Act} {w w0 : World} {K : Act → World → Prop} {Q : Exit → Act → World → Prop} {rows : List RowSpec} (ty : TypeId) (x y : Operand) (ho : o.op = .store ty x y) (h : HS w0 w rows) (k : Nat) {b : Nat} {t : TypeId} {n : Nat} {f : Nat → Value} (hk : rows[k]? = some ⟨b, t, n, f⟩)
    (off m : Nat) (g : Nat → Value) (hx : a.eval x = .pointer (some ⟨b, off, none⟩)) (hy : a.eval y = .agg (arr m g)) (hi : (P.info? ty).map (·.size) = some m) (hfit : off + m ≤ n) (h1 : ∀ i, i < m → (g i).oneCell' = true) (F : Nat → Value) (hF : ∀ j, j < n → (if off ≤ j ∧ j < off + m then g (j - off) else f j) = F j)
    (hK : ∀ w', HS w0 w' (rows.set k ⟨b, t, n, F⟩) → K (a.put o.dst undef) w') : o.wp P a w K Q := by
  obtain ⟨w1, hrun, hr, hg⟩ := run_storeAt_part (P := P) (h.row k hk) ty off m g hi hfit h1
  unfold Oper.wp execOp
  simp only [ho, hx, hy, Sem.run_bind, hrun, Result.andThen_ok, Sem.run_pure]
  exact hK _ (h.write k hk hg (hr.congr hF))
theorem wpList_storeP {ops : Array Oper} {rest : List Oper} {o : Oper} {a : Act} {w w0 : World} {Q : Exit → Act → World → Prop} {rows : List RowSpec} (hgd : o.guard = none) (ty : TypeId) (x y : Operand) (ho : o.op = .store ty x y) (h : HS w0 w rows) (k : Nat) {b : Nat} {t : TypeId} {n : Nat} {f : Nat → Value} (hk : rows[k]? = some ⟨b, t, n, f⟩)
    (off m : Nat) (g : Nat → Value) (hx : a.eval x = .pointer (some ⟨b, off, none⟩)) (hy : a.eval y = .agg (arr m g)) (hi : (P.info? ty).map (·.size) = some m) (hfit : off + m ≤ n) (h1 : ∀ i, i < m → (g i).oneCell' = true) (F : Nat → Value) (hF : ∀ j, j < n → (if off ≤ j ∧ j < off + m then g (j - off) else f j) = F j)
    (hK : ∀ w', HS w0 w' (rows.set k ⟨b, t, n, F⟩) → wpList P ops Q rest (a.put o.dst undef) w') : wpList P ops Q (o :: rest) a w :=
  wpList_plain hgd fun _ hK' => wp_storeP ty x y ho h k hk off m g hx hy hi hfit h1 F hF fun w' h2 => hK' _ _ (hK w' h2)
end
/-- The row that an own slice lies in. -/
theorem OwnZ.row {w : World} {base z n c : Nat} {e : TypeId} {ad : Addr} {f : Nat → Value} (h : OwnZ w base e z (some ad) n c f) : ∃ F, w.rowIs ad.block e (c * z) F ∧ (∀ i, i < n * z → F i = f i) ∧ base ≤ ad.block := by
  rcases h.2 with ⟨hv, _⟩ | ⟨g, cap, cur, hv, hb, hh, _, _, hs, ht⟩
  · injection hv with h1; cases h1
  · injection hv with h1 _ h3
    injection h1 with h1
    subst h1 h3
    refine ⟨fun i => cur.getD i undef, ⟨cur, hh, hs, fun i hi => by simp [Array.getD, show i < cur.size by omega]⟩, fun i hi => ?_, hb⟩
    have h4 : (cur.toList.take (n * z))[i]? = some (f i) := by rw [ht]; simp [hi]
    rw [List.getElem?_take, if_pos hi, Array.getElem?_toList] at h4
    simp [Array.getD_eq_getD_getElem?, h4]
theorem OwnZ.of_rowC {w : World} {base z n c b : Nat} {e : TypeId} {F f : Nat → Value} (h : w.rowIs b e (c * z) F) (hb : base ≤ b) (hn : n ≤ c) (hc : c ≤ maxLen) (hf : ∀ i, i < n * z → F i = f i) : OwnZ w base e z (some ⟨b, 0, none⟩) n c f := by
  obtain ⟨cs, hh, hs, hcc⟩ := h
  have hnz : n * z ≤ c * z := Nat.mul_le_mul_right _ hn
  refine ⟨by simp, .inr ⟨b, c, cs, rfl, hb, hh, hn, hc, hs, ?_⟩⟩
  apply List.ext_getElem?
  intro i
  by_cases hi : i < n * z
  · simp [hi, hcc i (by omega), hf i hi]
  · simp [List.getElem?_take, hi]
end Go.Proofs.YtecgogeebponlaaDoor
/- Powers of two, by 'm & (m-1)'. -/
namespace Go.Proofs.YtecgogeebponlaaDoor
set_option maxRecDepth 40000
theorem i64_and (a b : Nat) (ha : a < 9223372036854775808) (hb : b < 9223372036854775808) : bits .and .i64 (a : Int) (b : Int) = ((a &&& b : Nat) : Int) := by
  have h1 : (BitVec.ofInt 64 (a : Int)).toNat = a := by
    rw [BitVec.ofInt_natCast, BitVec.toNat_ofNat]; exact Nat.mod_eq_of_lt (by omega)
  have h2 : (BitVec.ofInt 64 (b : Int)).toNat = b := by
    rw [BitVec.ofInt_natCast, BitVec.toNat_ofNat]; exact Nat.mod_eq_of_lt (by omega)
  show IntKind.i64.wrap ((BitVec.ofInt 64 (a : Int) &&& BitVec.ofInt 64 (b : Int)).toNat : Int) = _
  rw [BitVec.toNat_and, h1, h2]
  have h3 : a &&& b ≤ a := Nat.and_le_left
  rw [IntKind.wrap_i64]
  omega
theorem land_pow (k : Nat) : 2 ^ k &&& (2 ^ k - 1) = 0 := by
  rw [Nat.and_two_pow_sub_one_eq_mod]; exact Nat.mod_self _
theorem land_ne (k m : Nat) (h1 : 2 ^ k < m) (h2 : m < 2 ^ (k + 1)) : m &&& (m - 1) ≠ 0 := by
  intro h
  have t : ∀ x, 2 ^ k ≤ x → x < 2 ^ (k + 1) → x.testBit k = true := fun x ha hb => by
    have hx : x / 2 ^ k = 1 := by
      have hp : 2 ^ (k + 1) = 2 * 2 ^ k := by rw [Nat.pow_succ]; omega
      have h0 : 0 < 2 ^ k := Nat.pow_pos (by omega)
      exact Nat.div_eq_of_lt_le (by omega) (by omega)
    rw [Nat.testBit_eq_decide_div_mod_eq, hx]; rfl
  have h3 := congrArg (fun y => y.testBit k) h
  simp only [Nat.testBit_and, Nat.zero_testBit] at h3
  rw [t m (by omega) h2, t (m - 1) (by omega) (by omega)] at h3
  cases h3
/-- Of the numbers from n to the power of two above it, that one alone is a power of two. -/
theorem land_dep {n m : Nat} (hn : 1 ≤ n) (h1 : n ≤ m) (h2 : m ≤ 2 ^ dep n) : m &&& (m - 1) = 0 ↔ m = 2 ^ dep n := by
  constructor
  · intro h
    by_cases e : m = 2 ^ dep n
    · exact e
    · exfalso
      obtain ⟨d, hd⟩ : ∃ d, dep n = d := ⟨_, rfl⟩
      rw [hd] at h2 e
      cases d with
      | zero => simp at h2 e; omega
      | succ d =>
        have h3 := dep_lt (l := n) (e := d) (by omega)
        exact land_ne d m (by omega) (by omega) h
  · rintro rfl
    exact land_pow _
end Go.Proofs.YtecgogeebponlaaDoor
