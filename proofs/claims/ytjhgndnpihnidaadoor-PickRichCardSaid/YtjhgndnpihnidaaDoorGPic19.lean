/- A part of what the proofs stand on: PickDraw, Call4. -/
import Derived.Test.YtjhgndnpihnidaaDoorGPic16
import Derived.Test.YtjhgndnpihnidaaDoorGPic8
import Derived.Test.YtjhgndnpihnidaaDoorGPic17
import Derived.Test.YtjhgndnpihnidaaDoorGPic18
import Derived.Test.YtjhgndnpihnidaaDoorGPic14
/- The walk of draw. (Printed by a program of mine.) -/
namespace Go.Proofs.YtjhgndnpihnidaaDoor
set_option maxRecDepth 40000
open Go.RowKit
namespace PickDraw
theorem run_ldSl {P : Program} (w : World) (ad : Addr) (ty e : TypeId) (v : Value) (h : w.cell? ad = some v) (hu : P.underlying ty = some (.slice e)) : (Instr.loadAt ty (.pointer (some ad))).run P w = .ok v w := by
  simp only [Instr.loadAt, Instr.sureAddr, Sem.run_bind, Sem.run_pure, Result.andThen]
  have hagg : (isAgg ty).run P w = .ok false w := by
    unfold isAgg
    rw [Sem.run_bind, run_underlying hu w]
    rfl
  simp [loadVar, Sem.run_bind, hagg, h]
theorem remIN (i n r : Nat) (hn : 0 < n) (h : i % n = r) (w : World) : (binOp .rem 3 (.int .i64 (i : Int)) (.int .i64 (n : Int))).run Tryd.prog w = .ok (.int .i64 (r : Int)) w := by
  subst h
  have h3 : (i : Int).tmod (n : Int) = ((i % n : Nat) : Int) := by rw [Int.tmod_eq_emod_of_nonneg (by omega)]; simp

  simp [go_sem, h3]
  try omega
theorem quo32 (i q : Nat) (h : i / 32 = q) (hi : i ≤ 256) (w : World) : (binOp .quo 3 (.int .i64 (i : Int)) (.int .i64 32)).run Tryd.prog w = .ok (.int .i64 (q : Int)) w := by
  subst h
  have h3 : (i : Int).tdiv 32 = ((i / 32 : Nat) : Int) := by rw [Int.tdiv_eq_ediv_of_nonneg (by omega)]; simp
  simp [go_sem, h3, IntKind.wrap, IntKind.bits, IntKind.signed]
  try omega
theorem idx32I (w : World) (b i : Nat) (hi : i < 32) : (Instr.indexAt 24 (.pointer (some ⟨b, 0, none⟩)) (.int .i64 (i : Int))).run Tryd.prog w = .ok (.pointer (some ⟨b, i, none⟩)) w := by
  simp [go_sem, Instr.indexAt]
  omega
theorem mulM (a : Nat) (h : a < 256) (w : World) : (binOp .mul 22 (.int .u64 32000000000) (.int .u64 (a : Int))).run Tryd.prog w = .ok (.int .u64 ((32000000000 * a : Nat) : Int)) w := by
  simp [go_sem, IntKind.wrap, IntKind.bits, IntKind.signed]; omega
theorem geqU (a b : Nat) (c : Bool) (h : decide (b ≤ a) = c) (w : World) : (binOp .geq 22 (.int .u64 (a : Int)) (.int .u64 (b : Int))).run Tryd.prog w = .ok (.bool c) w := by
  subst h
  simp [go_sem]
theorem addI1 (i : Nat) (h : i < 1000000) (w : World) : (binOp .add 3 (.int .i64 (i : Int)) (.int .i64 1)).run Tryd.prog w = .ok (.int .i64 ((i + 1 : Nat) : Int)) w := by
  simp [go_sem, IntKind.wrap, IntKind.bits, IntKind.signed]; omega
section
variable {P : Program}
/-- A whole array is laid into row k; the world is a letter, and just this row was written. -/
theorem wpList_storeHG {ops : Array Oper} {rest : List Oper} {o : Oper} {a : Act} {w w0 : World} {Q : Exit → Act → World → Prop} {rows : List RowSpec} (hgd : o.guard = none) (ty : TypeId) (x y : Operand) (ho : o.op = .store ty x y) (h : HS w0 w rows) (k : Nat) {b : Nat} {t : TypeId} {n : Nat} {f : Nat → Value} (hk : rows[k]? = some ⟨b, t, n, f⟩)
    (g : Nat → Value) (hx : a.eval x = .pointer (some ⟨b, 0, none⟩)) (hy : a.eval y = .agg (arr n g)) (hi : (P.info? ty).map (·.size) = some n) (h1 : ∀ i, i < n → (g i).oneCell' = true)
    (hK : ∀ w', HS w0 w' (rows.set k ⟨b, t, n, g⟩) → w.grownBy w' (some b) → wpList P ops Q rest (a.put o.dst undef) w') : wpList P ops Q (o :: rest) a w :=
  wpList_store_arr hgd ty x y ho (h.row k hk) (arr n g) hx hy (size_arr _ _) hi (fun i hi => ⟨_, arr_at _ _ i hi, h1 i hi⟩) (hK _ (h.setRow k hk (arr n g) (size_arr _ _) g (fun i hi => arr_at _ _ i hi)) ⟨rfl, rfl, rfl, by rw [size_setRow]; exact Nat.le_refl _, fun i _ hne => by
    unfold World.setRow
    have : ¬ b = i := fun e => hne (by rw [e])
    simp [Array.getElem?_modify, this]⟩)
end
/-- At the label: i tries are done. -/
def J (w : World) (b : Nat) (A : Option Addr) (n c want : Nat) (l s : Nat → Nat) (t : Nat → Bool) (v : Nat → Nat) (a : Act) (wr : World) : Prop := ∃ (i m b6 b11 : Nat) (A' : Option Addr) (c' : Nat) (A12 : Option Addr) (c12 base : Nat) (u4 u5 u7 u13 u15 u16 u17 u18 u19 u20 u21 u22 u23 u24 u25 u26 u27 u28 u29 u30 u31 u32 u33 u34 u35 u36 u37 u38 u39 u40 u41 u42 u43 u44 u45 u46 u47 u48 u49 u50 u51 u52 u53 u54 u55 u56 u57 u58 u59 u60 u61 u62 u63 u64 u65 u66 u67 u68 u69 u70 u71 u72 u73 : Value),
  a = ⟨#[.pointer (some ⟨b, 0, none⟩), .slice A n c, rootV s, .int .i64 (want : Int), u4, u5, .pointer (some ⟨b6, 0, none⟩), u7, .slice none 0 0, .int .i64 0, .slice A' m c', .pointer (some ⟨b11, 0, none⟩), .slice A12 n c12, u13, .int .i64 (i : Int), u15, u16, u17, u18, u19, u20, u21, u22, u23, u24, u25, u26, u27, u28, u29, u30, u31, u32, u33, u34, u35, u36, u37, u38, u39, u40, u41, u42, u43, u44, u45, u46, u47, u48, u49, u50, u51, u52, u53, u54, u55, u56, u57, u58, u59, u60, u61, u62, u63, u64, u65, u66, u67, u68, u69, u70, u71, u72, u73], []⟩ ∧ i ≤ 256 ∧ (n = 0 → i = 0) ∧ m = (outL t v i).length ∧ m ≤ want ∧ HS w wr [⟨b11, 24, 32, u8v (readyN s i)⟩, ⟨b6, 24, 32, u8v s⟩] ∧ OwnZ wr base 22 1 A' m c' (u64v (ox t v i)) ∧ OwnZ wr w.heap.size 22 1 A12 n c12 (u64v fun q => l (placeN s n q)) ∧ (∀ ad, A12 = some ad → ad.block < base ∧ ad.block ≠ b11) ∧ w.heap.size ≤ b6 ∧ w.heap.size ≤ b11 ∧ b6 < base ∧ b11 < base ∧ w.heap.size ≤ base ∧ base ≤ wr.heap.size
end PickDraw
open PickDraw in
set_option maxRecDepth 100000 in
set_option maxHeartbeats 16000000 in
theorem draw_look (b : Nat) (F : Nat → Value) (AV : Option Addr) (nV cV : Nat) (VV : Nat → Value) (A : Option Addr) (n c : Nat) (l s : Nat → Nat) (hs : ∀ i, s i < 256) (want : Nat) (hw1 : 1 ≤ want) (hw2 : want ≤ 256) (w : World) (hrow : w.rowIs b 49 1957 F) (hV : VOk w w.heap.size F AV nV cV VV) (hL : Rd w w.heap.size A n (u64v l)) (hl : ∀ q, q < n → l q < nV) (hn : n ≤ 65536) (hA0 : A = none → c = 0) (hp : ShaPkg w) :
    Calls Tryd.prog 45 #[.pointer (some ⟨b, 0, none⟩), .slice A n c, rootV s, .int .i64 (want : Int)] w fun e w' => ∃ A' c', e = .returned (.tuple #[.slice A' (pickL (effF VV) l s n want).length c', .int .i64 (pickE (pickL (effF VV) l s n want))]) ∧ OwnZ w' w.heap.size 22 1 A' (pickL (effF VV) l s n want).length c' (u64v fun j => (pickL (effF VV) l s n want).getD j 0) ∧ Below w.heap.size w w' := by
  have HS0 := Lib.hid (HS.nil w)
  have HX := Lib.hid hL
  have HP := Lib.hid hp
  have HSl := Lib.hid hs
  have HA0 := Lib.hid hA0
  have HRow := Lib.hid hrow
  have HVk := Lib.hid hV
  have HL := Lib.hid hl
  have hbw : b < w.heap.size := hrow.lt
  obtain ⟨t, ht⟩ : ∃ t, t = takeN (effF VV) l s n := ⟨_, rfl⟩
  obtain ⟨v, hv⟩ : ∃ v, v = candN l s n := ⟨_, rfl⟩
  obtain ⟨PL, hPL⟩ : ∃ PL, PL = pickL (effF VV) l s n want := ⟨_, rfl⟩
  have HOk := Lib.hid (show ∀ i, n ≠ 0 → i ≤ 256 → (outL t v i).length = want → PL = outL t v i from fun i h1 h2 h3 => by rw [hPL, ht, hv]; rw [ht, hv] at h3; exact pick_ok h1 h2 h3)
  have HNo := Lib.hid (show n = 0 ∨ (outL t v 256).length < want → PL = [] from fun h => by rw [hPL]; rw [ht, hv] at h; exact pick_none h)
  have HTd := Lib.hid ht
  have HVd := Lib.hid hv
  rw [← hPL]
  clear hL hp hs hA0 hrow hV hl ht hv hPL
  go_enter Tryd.func45, Tryd.ntmps45
  go_wp2_with (refine wpList_boxL rfl 24 _ 6 rfl rfl HS0.out 32 (u8v s) rfl ?_; intro b6 w3 hb6 hc6 hs; have HS3 := Lib.hid hs; have hb6w : b6 < w3.heap.size := hs.lt 0 rfl; clear hs)
  refine ShufList.wp_scope_l 0 (J w b A n c want l s t v) (fun a _ => 256 - (intOf (a.tmps.getD 14 undef)).toNat) rfl ?_ ?_
  · rintro a wp ⟨i, m, b6, b11, A', c', A12, c12, base, u4, u5, u7, u13, u15, u16, u17, u18, u19, u20, u21, u22, u23, u24, u25, u26, u27, u28, u29, u30, u31, u32, u33, u34, u35, u36, u37, u38, u39, u40, u41, u42, u43, u44, u45, u46, u47, u48, u49, u50, u51, u52, u53, u54, u55, u56, u57, u58, u59, u60, u61, u62, u63, u64, u65, u66, u67, u68, u69, u70, u71, u72, u73, rfl, hi, hn0, hmd, hmw, hs, ho, ha, hA12, hb6, hb11, hb6b, hb11b, hwb, hbwp⟩
    clear HS3 HS0 HA0 HX
    have HSp := Lib.hid hs
    have HOp := Lib.hid ho
    have HAp := Lib.hid ha
    have HMd := Lib.hid hmd
    clear hs ho ha hmd
    by_cases hmw2 : m = want
    · have t1 : ((m : Int) == (want : Int)) = true := by rw [beq_iff_eq]; omega
      by_cases hn : n = 0
      · exfalso
        have h1 := hn0 hn
        have h2 := HMd.out
        rw [h1] at h2
        have : (outL t v 0).length = 0 := rfl
        omega
      · have HE := Lib.hid (HOk.out i hn hi (by rw [← HMd.out]; exact hmw2))
        obtain rfl : want = m := hmw2.symm
        have e1 : PL.length = want := by rw [HE.out]; exact HMd.out.symm
        have e2 : pickE PL = 0 := by unfold pickE; rw [if_neg (fun e => by rw [e] at e1; simp at e1; omega)]
        have e3 : (fun j => PL.getD j 0) = ox t v i := by rw [HE.out]; rfl
        have H123 := Lib.hid (And.intro e1 (And.intro e2 e3))
        clear e1 e2 e3
        go_wp2_with fail
        simp only [Exit.jump]
        go_ret2
        rw [H123.out.1, H123.out.2.1, H123.out.2.2]
        exact ⟨A', c', rfl, HOp.out.mono hwb, HSp.out.out (by simp; omega)⟩
    · have t1 : ((m : Int) == (want : Int)) = false := by rw [beq_eq_false_iff_ne]; omega
      by_cases hn : n = 0
      · have t2 : ((n : Int) == 0) = true := by rw [beq_iff_eq]; omega
        have HE := Lib.hid (HNo.out (.inl hn))
        go_wp2_with fail
        simp only [Exit.jump]
        go_ret2
        rw [HE.out]
        exact ⟨none, 0, rfl, OwnZ.nil _ _ _ _ _, HSp.out.out (by simp; omega)⟩
      · have t2 : ((n : Int) == 0) = false := by rw [beq_eq_false_iff_ne]; omega
        by_cases hi256 : i = 256
        · have t3 : ((i : Int) == 256) = true := by rw [beq_iff_eq]; omega
          have HE := Lib.hid (HNo.out (.inr (by have := HMd.out; rw [hi256] at this; omega)))
          go_wp2_with fail
          simp only [Exit.jump]
          go_ret2
          rw [HE.out]
          exact ⟨none, 0, rfl, OwnZ.nil _ _ _ _ _, HSp.out.out (by simp; omega)⟩
        · have t3 : ((i : Int) == 256) = false := by rw [beq_eq_false_iff_ne]; omega
          obtain ⟨r, hr⟩ : ∃ r, i % 32 = r := ⟨_, rfl⟩
          obtain ⟨rn, hrn'⟩ : ∃ r, i % n = r := ⟨_, rfl⟩
          obtain ⟨x, hx⟩ : ∃ x, x = l (placeN s n rn) := ⟨_, rfl⟩
          have hr32 : r < 32 := by omega
          have hrn : rn < n := by rw [← hrn']; exact Nat.mod_lt _ (by omega)
          have HR := Lib.hid hr
          have HRn := Lib.hid hrn'
          have HXd := Lib.hid hx
          have HXd2 := Lib.hid (show x = v i by rw [hx, HVd.out]; unfold candN; rw [hrn'])
          have hxV : x < nV := by rw [hx]; exact HL.out _ (place_lt hrn)
          obtain ⟨aV, hAV, _, _, hvc⟩ := HVk.out.at_ hxV
          subst hAV
          obtain ⟨a12, h12, _, _⟩ := HAp.out.rd (show 0 < n * 1 by omega)
          subst h12
          obtain ⟨ef, hef⟩ : ∃ ef, effF VV x = ef := ⟨_, rfl⟩
          have HEf := Lib.hid hef
          obtain ⟨hcl, -⟩ := (HVk.out.sc x hxV).u64 80 (by kernel_rfl)
          have HVc : Hid (∀ w', Below w.heap.size w w' → w'.cell? ⟨(aV.add (x * 86)).block, (aV.add (x * 86)).off + 80, none⟩ = some (.int .u64 ((effF VV x : Nat) : Int))) := Lib.hid (fun w' hb => by
            obtain ⟨ad2, e2, _, _, h4⟩ := (HVk.out.below hb).at_ hxV
            injection e2 with e2
            subst e2
            rw [h4 80 (by omega) (by omega)]
            exact congrArg some hcl)
          obtain ⟨e5, he5⟩ : ∃ e5, ef * 255 % 18446744073709551616 = e5 := ⟨_, rfl⟩
          have HE5 := Lib.hid he5
          obtain ⟨lt, hlt'⟩ : ∃ lt, lotN s i = lt := ⟨_, rfl⟩
          have hlt : lt < 256 := by rw [← hlt']; exact lotN_lt s i
          have HLt := Lib.hid (show u8v (readyN s (i + 1)) r = .int .u8 ((lt : Nat) : Int) by simp only [u8v]; rw [← hr, ready_at, hlt'])
          obtain ⟨tk, htk⟩ : ∃ tk, t i = tk := ⟨_, rfl⟩
          have HTi := Lib.hid htk
          have HTk := Lib.hid (show decide (32000000000 * lt ≤ e5) = tk by
            rw [← htk, HTd.out]
            unfold takeN
            rw [show candN l s n i = x by rw [HXd2.out, HVd.out], hlt', hef, he5])
          clear hr hrn' hx hvc hef he5 hlt' htk hcl
          by_cases hz0 : r = 0
          · have t4 : ((r : Int) == 0) = true := by rw [beq_iff_eq]; omega
            obtain ⟨q, hq⟩ : ∃ q, i / 32 = q := ⟨_, rfl⟩
            have HQ := Lib.hid hq
            have HRd := Lib.hid (show behN s q = readyN s (i + 1) by rw [← hq]; exact ready_new (by rw [HR.out]; exact hz0))
            have hq8 : q ≤ 8 := by omega
            clear hq
            go_upto_region 11 with (first
              | (refine wpList_as rfl 38 rfl (.int .i64 ((r : Nat) : Int)) ?_ ?_; (· exact ex_bin rfl rfl rfl rfl (fun w => remIN i 32 r (by omega) HR.out w) _))
              | (refine wpList_as rfl 42 rfl (.int .i64 ((q : Nat) : Int)) ?_ ?_; (· exact ex_bin rfl rfl rfl rfl (fun w => quo32 i q HQ.out (by omega) w) _))
              | (refine wpList_as rfl 43 rfl (.int .u64 ((q : Nat) : Int)) ?_ ?_; (· exact ex_cnv rfl rfl (fun w => ShufList.cvIU q (by omega) w) _))
              | (refine wpList_load_rd rfl 24 _ rfl 32 _ Tryd.underlying24 rfl (by kernel_rfl) ⟨b6, 0, none⟩ rfl (u8v s) (fun i hi => by rw [add_lit0]; exact (HSp.out.row 1 rfl).cell hi) ?_)
              | (go_at_call 47; refine (behind_look s HSl.out q _ (HP.out.below (HSp.out.out (by simp; omega)))).mono ?_; rintro e w1 ⟨rfl, hb⟩; have HS1 := Lib.hid (HSp.out.below hb); have HO1 := Lib.hid (HOp.out.all hb); have HA1 := Lib.hid (HAp.out.all hb); have h1 := hb.size; clear hb)
              | (refine wpList_storeHG rfl 24 (.tmp 11) (.tmp 44) rfl HS1.out 0 rfl (u8v (readyN s (i + 1))) rfl (by rw [← HRd.out]; rfl) (by kernel_rfl) (fun _ _ => rfl) ?_; intro w2 hs hg; have HS2 := Lib.hid hs; have HO2 := Lib.hid (HO1.out.kept hg (fun ad e er => by injection er with er; have := (HO1.out.base_le ad e).1; omega)); have HA2 := Lib.hid (HA1.out.kept hg (fun ad e er => by injection er with er; exact absurd er (hA12 ad e).2)); have h2w := hg.size; clear hs hg))
            have HBv := Lib.hid (HS2.out.out (by simp; omega))
            have HC51 := Lib.hid (show w2.cell? (a12.add (rn * 1)) = some (.int .u64 ((x : Nat) : Int)) by rw [Nat.mul_one, HXd.out]; exact HA2.out.rd.cells (by omega))
            have HC55 : Hid (∀ w', Below w2.heap.size w2 w' → w'.cell? ⟨b, 721, none⟩ = some (.slice (some aV) nV cV)) := Lib.hid (fun w' hb => by rw [← HVk.out.f]; exact (row_below (row_below HRow.out HBv.out hbw) hb (Nat.lt_of_lt_of_le hbw HBv.out.size)).cell (by omega))
            have HC59 : Hid (∀ w', Below w2.heap.size w2 w' → w'.cell? ⟨(aV.add (x * 86)).block, (aV.add (x * 86)).off + 80, none⟩ = some (.int .u64 ((ef : Nat) : Int))) := Lib.hid (fun w' hb => by rw [← HEf.out]; exact HVc.out w' (HBv.out.trans (hb.mono HBv.out.size)))
            have HC64 : Hid (∀ w', Below w2.heap.size w2 w' → w'.cell? ⟨b11, r, none⟩ = some (.int .u8 ((lt : Nat) : Int))) := Lib.hid (fun w' hb => by rw [← HLt.out]; exact (row_below (HS2.out.row 0 rfl) hb (HS2.out.lt 0 rfl)).cell hr32)
            go_upto_region 12 with (first
              | (refine wpList_as rfl 49 rfl (.int .i64 ((rn : Nat) : Int)) ?_ ?_; (· exact ex_bin rfl rfl rfl rfl (fun w => remIN i n rn (by omega) HRn.out w) _))
              | (refine wpList_as rfl 50 rfl (.pointer (some (a12.add (rn * 1)))) ?_ ?_; (· exact ex_idx rfl rfl rfl (fun w => run_idxZ (z := 1) w Tryd.underlying37 (by kernel_rfl) a12 hrn) _))
              | (refine wpList_as rfl 51 rfl (.int .u64 ((x : Nat) : Int)) ?_ ?_; (· exact ex_ld1 .u64 rfl rfl Tryd.underlying22 HC51.out)))
            refine wp_region_facts (B := w2.heap.size) (w0 := w2) [SF.is (.pointer (some ⟨b, 0, none⟩)), SF.is (.pointer (some ⟨b, 0, none⟩)), SF.is (.pointer (some ⟨b, 721, none⟩)), SF.is (.slice (some aV) (nV) (cV)), SF.is (.int .u64 ((x : Nat) : Int)), SF.is (.pointer (some (aV.add (x * 86)))), SF.is (.pointer (some ⟨(aV.add (x * 86)).block, (aV.add (x * 86)).off + 80, none⟩)), SF.is (.int .u64 ((ef : Nat) : Int)), SF.is (.int .u64 ((e5 : Nat) : Int)), SF.is (.int .i64 ((i : Nat) : Int)), SF.is (.int .i64 ((r : Nat) : Int)), SF.is (.pointer (some ⟨b11, r, none⟩)), SF.is (.int .u8 ((lt : Nat) : Int)), SF.is (.int .u64 ((lt : Nat) : Int)), SF.is (.int .u64 ((32000000000 * lt : Nat) : Int)), SF.is (.bool tk)] (by kernel_rfl) (by kernel_rfl) rfl (Nat.le_refl _) (Below.refl _ _) ⟨?_, ?_, ?_, ?_, ?_, ?_, ?_, ?_, ?_, ?_, ?_, ?_, ?_, ?_, ?_, ?_, trivial⟩ ?_
            · exact (opOb_move _ rfl (.inl rfl) rfl)
            · exact opOb_nil _ rfl rfl (OpK.tmp rfl)
            · exact opOb_fld rfl rfl (OpK.tmp rfl) (fun w => by simp [go_sem])
            · exact opOb_ld rfl rfl (OpK.tmp rfl) (fun w' hb => run_ldSl w' _ _ _ _ (HC55.out w' hb) Tryd.underlying36)
            · exact (opOb_move _ rfl (.inl rfl) rfl)
            · exact opOb_idx rfl rfl (OpK.tmp rfl) (OpK.tmp rfl) (fun w => ShufRefList.run_idxZV (z := 86) w Tryd.underlying36 (by kernel_rfl) aV hxV)
            · exact opOb_fld rfl rfl (OpK.tmp rfl) (fun w => by simp [go_sem])
            · exact opOb_ld rfl rfl (OpK.tmp rfl) (fun w' hb => run_ld1 w' _ _ .u64 _ (HC59.out w' hb) Tryd.underlying22)
            · exact opOb_bin rfl rfl rfl (OpK.tmp rfl) OpK.const (fun w => ShufLawOps.mulW ef 255 e5 HE5.out w)
            · exact (opOb_move _ rfl (.inl rfl) rfl)
            · exact opOb_bin rfl rfl rfl (OpK.tmp rfl) OpK.const (fun w => remIN i 32 r (by omega) HR.out w)
            · exact opOb_idx rfl rfl (OpK.tmp rfl) (OpK.tmp rfl) (fun w => idx32I w b11 r hr32)
            · exact opOb_ld rfl rfl (OpK.tmp rfl) (fun w' hb => run_ld1 w' _ _ .u8 _ (HC64.out w' hb) Tryd.underlying5)
            · exact opOb_cnv rfl rfl (OpK.tmp rfl) (fun w => ShufFn.cvBU lt hlt w)
            · exact opOb_bin rfl rfl rfl OpK.const (OpK.tmp rfl) (fun w => mulM lt hlt w)
            · exact opOb_bin rfl rfl rfl (OpK.tmp rfl) (OpK.tmp rfl) (fun w => geqU e5 (32000000000 * lt) tk HTk.out w)
            · intro w' hb
              simp only [fin, SF.is, forall_eq]
              simp only [Act.put, List.setIfInBounds_toArray, List.set_cons_succ, List.set_cons_zero]
              have HSz := Lib.hid (HS2.out.below hb)
              have HOz := Lib.hid (HO2.out.all hb)
              have HAz := Lib.hid (HA2.out.all hb)
              have hz := hb.size
              have HNz := Lib.hid (HS.nil w')
              clear hb
              cases tk with
              | true =>
                have HCat := Lib.hid (show ∀ q, q < (m + 1) * 1 → catF (m * 1) (u64v (ox t v i)) (fun _ => .int .u64 ((x : Nat) : Int)) q = u64v (ox t v (i + 1)) q by rw [Nat.mul_one, Nat.mul_one, HXd2.out, HMd.out]; exact ox_cat HTi.out)
                have HLen := Lib.hid (outL_lt (v := v) HTi.out)
                have h2 := HSz.out.size
                go_wp2_with (first
                  | (refine wpList_bs1s rfl (.tmp 69) (.int .u64 ((x : Nat) : Int)) rfl rfl (fun w => ShufRefList.run_bs1_64 _ w) HNz.out ?_; intro b70 w5 hb70 hc70 hbl hs; have HR5 := Lib.hid (hs.row 0 rfl); have HB5 := Lib.hid hbl; clear hs hbl)
                  | (at_builtin; refine wpList_appZ _ (.tmp 68) (.tmp 70) 37 base (e := 22) (z := .int .u64 0) (k := 1) (bytes := 8) (by kernel_rfl) Tryd.underlying37 (by rfl) (by omega) rfl rfl (m + 1) (u64v (ox t v (i + 1))) rfl rfl (HOz.out.all HB5.out) (Rd.of_row (n := 1 * 1) HR5.out (Nat.le_refl _) HR5.out.lt) (fun _ _ => rfl) rfl HCat.out ⟨by omega, by omega⟩ (by have := HB5.out.size; omega) ?_; intro A71 c71 w6 ho hg _; have HO6 := Lib.hid ho; have HS6 := Lib.hid ((HSz.out.below HB5.out).appO hg (B := base) (fun ad e => (HOz.out.base_le ad e).1) (by simp; omega)); have HA6 := Lib.hid ((HAz.out.all HB5.out).kept hg (fun ad e er => by
                      have h1 := (hA12 ad e).1
                      cases hA' : A' with
                      | none => rw [hA'] at er; cases er
                      | some ad' => rw [hA'] at er; injection er with er; have er2 : ad.block = ad'.block := er; have := (HOz.out.base_le ad' hA').1; omega)); have h6 := hg.size; have h5 := HB5.out.size; clear ho hg)
                  | (refine wpList_as rfl 73 rfl (.int .i64 ((i + 1 : Nat) : Int)) ?_ ?_; (· exact ex_bin rfl rfl rfl rfl (fun w => addI1 i (by omega) w) _)))
                apply wp_goto
                exact ⟨rfl, ⟨i + 1, m + 1, b6, b11, A71, c71, some a12, c12, base, _, _, _, _, _, _, _, _, _, _, _, _, _, _, _, _, _, _, _, _, _, _, _, _, _, _, _, _, _, _, _, _, _, _, _, _, _, _, _, _, _, _, _, _, _, _, _, _, _, _, _, _, _, _, _, _, _, _, _, _, _, _, _, rfl, by omega, fun h => absurd h hn, by rw [HLen.out, HMd.out], by omega, HS6.out, HO6.out, HA6.out, hA12, hb6, hb11, hb6b, hb11b, hwb, by omega⟩, by simp [intOf]; omega⟩
              | false =>
                have HOx := Lib.hid (ox_f (v := v) HTi.out)
                have HLen := Lib.hid (outL_lf (v := v) HTi.out)
                go_wp2_with (first
                  | (refine wpList_as rfl 73 rfl (.int .i64 ((i + 1 : Nat) : Int)) ?_ ?_; (· exact ex_bin rfl rfl rfl rfl (fun w => addI1 i (by omega) w) _)))
                apply wp_goto
                exact ⟨rfl, ⟨i + 1, m, b6, b11, A', c', some a12, c12, base, _, _, _, _, _, _, _, _, _, _, _, _, _, _, _, _, _, _, _, _, _, _, _, _, _, _, _, _, _, _, _, _, _, _, _, _, _, _, _, _, _, _, _, _, _, _, _, _, _, _, _, _, _, _, _, _, _, _, _, _, _, _, _, rfl, by omega, fun h => absurd h hn, by rw [HLen.out, HMd.out], by omega, HSz.out, by rw [HOx.out]; exact HOz.out, HAz.out, hA12, hb6, hb11, hb6b, hb11b, hwb, by omega⟩, by simp [intOf]; omega⟩
          · have t4 : ((r : Int) == 0) = false := by rw [beq_eq_false_iff_ne]; omega
            have HS2 := Lib.hid (HSp.out.congr 0 rfl (g := u8v (readyN s (i + 1))) (fun q _ => by rw [ready_old (show i % 32 ≠ 0 by rw [HR.out]; exact hz0)]))
            clear HSp
            go_upto_region 11 with (first
              | (refine wpList_as rfl 38 rfl (.int .i64 ((r : Nat) : Int)) ?_ ?_; (· exact ex_bin rfl rfl rfl rfl (fun w => remIN i 32 r (by omega) HR.out w) _)))
            have HBv := Lib.hid (HS2.out.out (by simp; omega))
            have HC51 := Lib.hid (show wp.cell? (a12.add (rn * 1)) = some (.int .u64 ((x : Nat) : Int)) by rw [Nat.mul_one, HXd.out]; exact HAp.out.rd.cells (by omega))
            have HC55 : Hid (∀ w', Below wp.heap.size wp w' → w'.cell? ⟨b, 721, none⟩ = some (.slice (some aV) nV cV)) := Lib.hid (fun w' hb => by rw [← HVk.out.f]; exact (row_below (row_below HRow.out HBv.out hbw) hb (Nat.lt_of_lt_of_le hbw HBv.out.size)).cell (by omega))
            have HC59 : Hid (∀ w', Below wp.heap.size wp w' → w'.cell? ⟨(aV.add (x * 86)).block, (aV.add (x * 86)).off + 80, none⟩ = some (.int .u64 ((ef : Nat) : Int))) := Lib.hid (fun w' hb => by rw [← HEf.out]; exact HVc.out w' (HBv.out.trans (hb.mono HBv.out.size)))
            have HC64 : Hid (∀ w', Below wp.heap.size wp w' → w'.cell? ⟨b11, r, none⟩ = some (.int .u8 ((lt : Nat) : Int))) := Lib.hid (fun w' hb => by rw [← HLt.out]; exact (row_below (HS2.out.row 0 rfl) hb (HS2.out.lt 0 rfl)).cell hr32)
            go_upto_region 12 with (first
              | (refine wpList_as rfl 49 rfl (.int .i64 ((rn : Nat) : Int)) ?_ ?_; (· exact ex_bin rfl rfl rfl rfl (fun w => remIN i n rn (by omega) HRn.out w) _))
              | (refine wpList_as rfl 50 rfl (.pointer (some (a12.add (rn * 1)))) ?_ ?_; (· exact ex_idx rfl rfl rfl (fun w => run_idxZ (z := 1) w Tryd.underlying37 (by kernel_rfl) a12 hrn) _))
              | (refine wpList_as rfl 51 rfl (.int .u64 ((x : Nat) : Int)) ?_ ?_; (· exact ex_ld1 .u64 rfl rfl Tryd.underlying22 HC51.out)))
            refine wp_region_facts (B := wp.heap.size) (w0 := wp) [SF.is (.pointer (some ⟨b, 0, none⟩)), SF.is (.pointer (some ⟨b, 0, none⟩)), SF.is (.pointer (some ⟨b, 721, none⟩)), SF.is (.slice (some aV) (nV) (cV)), SF.is (.int .u64 ((x : Nat) : Int)), SF.is (.pointer (some (aV.add (x * 86)))), SF.is (.pointer (some ⟨(aV.add (x * 86)).block, (aV.add (x * 86)).off + 80, none⟩)), SF.is (.int .u64 ((ef : Nat) : Int)), SF.is (.int .u64 ((e5 : Nat) : Int)), SF.is (.int .i64 ((i : Nat) : Int)), SF.is (.int .i64 ((r : Nat) : Int)), SF.is (.pointer (some ⟨b11, r, none⟩)), SF.is (.int .u8 ((lt : Nat) : Int)), SF.is (.int .u64 ((lt : Nat) : Int)), SF.is (.int .u64 ((32000000000 * lt : Nat) : Int)), SF.is (.bool tk)] (by kernel_rfl) (by kernel_rfl) rfl (Nat.le_refl _) (Below.refl _ _) ⟨?_, ?_, ?_, ?_, ?_, ?_, ?_, ?_, ?_, ?_, ?_, ?_, ?_, ?_, ?_, ?_, trivial⟩ ?_
            · exact (opOb_move _ rfl (.inl rfl) rfl)
            · exact opOb_nil _ rfl rfl (OpK.tmp rfl)
            · exact opOb_fld rfl rfl (OpK.tmp rfl) (fun w => by simp [go_sem])
            · exact opOb_ld rfl rfl (OpK.tmp rfl) (fun w' hb => run_ldSl w' _ _ _ _ (HC55.out w' hb) Tryd.underlying36)
            · exact (opOb_move _ rfl (.inl rfl) rfl)
            · exact opOb_idx rfl rfl (OpK.tmp rfl) (OpK.tmp rfl) (fun w => ShufRefList.run_idxZV (z := 86) w Tryd.underlying36 (by kernel_rfl) aV hxV)
            · exact opOb_fld rfl rfl (OpK.tmp rfl) (fun w => by simp [go_sem])
            · exact opOb_ld rfl rfl (OpK.tmp rfl) (fun w' hb => run_ld1 w' _ _ .u64 _ (HC59.out w' hb) Tryd.underlying22)
            · exact opOb_bin rfl rfl rfl (OpK.tmp rfl) OpK.const (fun w => ShufLawOps.mulW ef 255 e5 HE5.out w)
            · exact (opOb_move _ rfl (.inl rfl) rfl)
            · exact opOb_bin rfl rfl rfl (OpK.tmp rfl) OpK.const (fun w => remIN i 32 r (by omega) HR.out w)
            · exact opOb_idx rfl rfl (OpK.tmp rfl) (OpK.tmp rfl) (fun w => idx32I w b11 r hr32)
            · exact opOb_ld rfl rfl (OpK.tmp rfl) (fun w' hb => run_ld1 w' _ _ .u8 _ (HC64.out w' hb) Tryd.underlying5)
            · exact opOb_cnv rfl rfl (OpK.tmp rfl) (fun w => ShufFn.cvBU lt hlt w)
            · exact opOb_bin rfl rfl rfl OpK.const (OpK.tmp rfl) (fun w => mulM lt hlt w)
            · exact opOb_bin rfl rfl rfl (OpK.tmp rfl) (OpK.tmp rfl) (fun w => geqU e5 (32000000000 * lt) tk HTk.out w)
            · intro w' hb
              simp only [fin, SF.is, forall_eq]
              simp only [Act.put, List.setIfInBounds_toArray, List.set_cons_succ, List.set_cons_zero]
              have HSz := Lib.hid (HS2.out.below hb)
              have HOz := Lib.hid (HOp.out.all hb)
              have HAz := Lib.hid (HAp.out.all hb)
              have hz := hb.size
              have HNz := Lib.hid (HS.nil w')
              clear hb
              cases tk with
              | true =>
                have HCat := Lib.hid (show ∀ q, q < (m + 1) * 1 → catF (m * 1) (u64v (ox t v i)) (fun _ => .int .u64 ((x : Nat) : Int)) q = u64v (ox t v (i + 1)) q by rw [Nat.mul_one, Nat.mul_one, HXd2.out, HMd.out]; exact ox_cat HTi.out)
                have HLen := Lib.hid (outL_lt (v := v) HTi.out)
                have h2 := HSz.out.size
                go_wp2_with (first
                  | (refine wpList_bs1s rfl (.tmp 69) (.int .u64 ((x : Nat) : Int)) rfl rfl (fun w => ShufRefList.run_bs1_64 _ w) HNz.out ?_; intro b70 w5 hb70 hc70 hbl hs; have HR5 := Lib.hid (hs.row 0 rfl); have HB5 := Lib.hid hbl; clear hs hbl)
                  | (at_builtin; refine wpList_appZ _ (.tmp 68) (.tmp 70) 37 base (e := 22) (z := .int .u64 0) (k := 1) (bytes := 8) (by kernel_rfl) Tryd.underlying37 (by rfl) (by omega) rfl rfl (m + 1) (u64v (ox t v (i + 1))) rfl rfl (HOz.out.all HB5.out) (Rd.of_row (n := 1 * 1) HR5.out (Nat.le_refl _) HR5.out.lt) (fun _ _ => rfl) rfl HCat.out ⟨by omega, by omega⟩ (by have := HB5.out.size; omega) ?_; intro A71 c71 w6 ho hg _; have HO6 := Lib.hid ho; have HS6 := Lib.hid ((HSz.out.below HB5.out).appO hg (B := base) (fun ad e => (HOz.out.base_le ad e).1) (by simp; omega)); have HA6 := Lib.hid ((HAz.out.all HB5.out).kept hg (fun ad e er => by
                      have h1 := (hA12 ad e).1
                      cases hA' : A' with
                      | none => rw [hA'] at er; cases er
                      | some ad' => rw [hA'] at er; injection er with er; have er2 : ad.block = ad'.block := er; have := (HOz.out.base_le ad' hA').1; omega)); have h6 := hg.size; have h5 := HB5.out.size; clear ho hg)
                  | (refine wpList_as rfl 73 rfl (.int .i64 ((i + 1 : Nat) : Int)) ?_ ?_; (· exact ex_bin rfl rfl rfl rfl (fun w => addI1 i (by omega) w) _)))
                apply wp_goto
                exact ⟨rfl, ⟨i + 1, m + 1, b6, b11, A71, c71, some a12, c12, base, _, _, _, _, _, _, _, _, _, _, _, _, _, _, _, _, _, _, _, _, _, _, _, _, _, _, _, _, _, _, _, _, _, _, _, _, _, _, _, _, _, _, _, _, _, _, _, _, _, _, _, _, _, _, _, _, _, _, _, _, _, _, _, rfl, by omega, fun h => absurd h hn, by rw [HLen.out, HMd.out], by omega, HS6.out, HO6.out, HA6.out, hA12, hb6, hb11, hb6b, hb11b, hwb, by omega⟩, by simp [intOf]; omega⟩
              | false =>
                have HOx := Lib.hid (ox_f (v := v) HTi.out)
                have HLen := Lib.hid (outL_lf (v := v) HTi.out)
                go_wp2_with (first
                  | (refine wpList_as rfl 73 rfl (.int .i64 ((i + 1 : Nat) : Int)) ?_ ?_; (· exact ex_bin rfl rfl rfl rfl (fun w => addI1 i (by omega) w) _)))
                apply wp_goto
                exact ⟨rfl, ⟨i + 1, m, b6, b11, A', c', some a12, c12, base, _, _, _, _, _, _, _, _, _, _, _, _, _, _, _, _, _, _, _, _, _, _, _, _, _, _, _, _, _, _, _, _, _, _, _, _, _, _, _, _, _, _, _, _, _, _, _, _, _, _, _, _, _, _, _, _, _, _, _, _, _, _, _, rfl, by omega, fun h => absurd h hn, by rw [HLen.out, HMd.out], by omega, HSz.out, by rw [HOx.out]; exact HOz.out, HAz.out, hA12, hb6, hb11, hb6b, hb11b, hwb, by omega⟩, by simp [intOf]; omega⟩
  · intro hJ
    go_wp2_with (first
      | (refine wpList_allocL rfl 24 11 rfl rfl HS3.out (Array.replicate 32 (.int .u8 0)) (by kernel_rfl) 32 (u8v (readyN s 0)) (by rfl) (zero_at 32 (.int .u8 0)) ?_; intro b11 w4 hb11 hc11 hs; have HS4 := Lib.hid hs; have hb11w : b11 < w4.heap.size := hs.lt 0 rfl; have h34 : b6 < w4.heap.size := hs.lt 1 rfl; clear hs)
      | (refine wpList_load_rd rfl 24 _ rfl 32 _ Tryd.underlying24 rfl (by kernel_rfl) ⟨b6, 0, none⟩ rfl (u8v s) (fun i hi => by rw [add_lit0]; exact (HS4.out.row 1 rfl).cell hi) ?_)
      | (go_at_call 70; refine (list_ok n c A l s HSl.out _ ((HX.out.below (HS4.out.out (by simp; omega))).more HS4.out.size) (by omega) HA0.out (HP.out.below (HS4.out.out (by simp; omega)))).mono ?_; rintro e w5 ⟨A12, c12, rfl, ho, hb⟩; have HO5 := Lib.hid (ho.mono HS4.out.size); have HO5b := Lib.hid (show ∀ ad, A12 = some ad → ad.block < w5.heap.size ∧ ad.block ≠ b11 from fun ad e => ⟨(ho.base_le ad e).2, by have := (ho.base_le ad e).1; omega⟩); have HS5 := Lib.hid (HS4.out.below hb); have h45 := hb.size; clear ho hb))
    apply wp_label
    rename_i hk
    exact hk _ _ <| hJ _ _ ⟨0, 0, b6, b11, none, 0, A12, c12, w5.heap.size, _, _, _, _, _, _, _, _, _, _, _, _, _, _, _, _, _, _, _, _, _, _, _, _, _, _, _, _, _, _, _, _, _, _, _, _, _, _, _, _, _, _, _, _, _, _, _, _, _, _, _, _, _, _, _, _, _, _, _, _, _, _, _, rfl, by omega, fun _ => rfl, rfl, by omega, HS5.out, OwnZ.nil _ _ _ _ _, HO5.out, HO5b.out, hb6, by omega, by omega, by omega, HS5.out.size, by omega⟩
end Go.Proofs.YtjhgndnpihnidaaDoor
/- Calls with four arguments in a drawn region. -/
namespace Go.Proofs.YtjhgndnpihnidaaDoor
set_option maxRecDepth 40000
open Go.RowKit
section
variable {P : Program} {ops : Array Oper} {B : Nat} {w0 : World} {o : Oper} {lk : Tmp → SF}
theorem opOb_fn4 {f : FuncId} (hent : ∀ vs w, (callFunc f vs).run P w = .ok (.enter f vs) w) {x y z u : Operand} {v1 v2 v3 v4 : Value} {ts : Array TypeId} {F : SF} (hg : o.guard = none) (hop : o.op = .call { callee := .value (.func f), args := #[x, y, z, u], argTypes := ts }) (hx : OpK lk x v1) (hy : OpK lk y v2) (hz : OpK lk z v3) (hu : OpK lk u v4)
    (hr : ∀ w, Below B w0 w → Calls P f #[v1, v2, v3, v4] w fun e w' => ∃ v, e = .returned v ∧ F.F v w' ∧ Below w.heap.size w w') : opOb P ops B w0 o F lk :=
  opOb_fn hent hg hop (fun a w hf => by
    have h1 := hx.eval hf (by rw [hop]; simp [Op.operands, Call.operands])
    have h2 := hy.eval hf (by rw [hop]; simp [Op.operands, Call.operands])
    have h3 := hz.eval hf (by rw [hop]; simp [Op.operands, Call.operands])
    have h4 := hu.eval hf (by rw [hop]; simp [Op.operands, Call.operands])
    simp [h1, h2, h3, h4]) hr
/-- The second one is known by a fact alone. -/
theorem opOb_fn4S {f : FuncId} (hent : ∀ vs w, (callFunc f vs).run P w = .ok (.enter f vs) w) {x z u : Operand} {y : Tmp} {S : SF} {v1 v3 v4 : Value} {ts : Array TypeId} {F : SF} (hg : o.guard = none) (hop : o.op = .call { callee := .value (.func f), args := #[x, .tmp y, z, u], argTypes := ts }) (hx : OpK lk x v1) (hy : lk y = S) (hz : OpK lk z v3) (hu : OpK lk u v4)
    (hr : ∀ w v2, Below B w0 w → S.F v2 w → Calls P f #[v1, v2, v3, v4] w fun e w' => ∃ v, e = .returned v ∧ F.F v w' ∧ Below w.heap.size w w') : opOb P ops B w0 o F lk :=
  opOb_call hg fun a w hb hf => by
    have h1 := hx.eval hf (by rw [hop]; simp [Op.operands, Call.operands])
    have h2 := hf y (by rw [hop]; simp [Op.operands, Call.operands])
    have h3 := hz.eval hf (by rw [hop]; simp [Op.operands, Call.operands])
    have h4 := hu.eval hf (by rw [hop]; simp [Op.operands, Call.operands])
    rw [hy] at h2
    obtain ⟨v2, e2⟩ : ∃ v2, v2 = a.eval (.tmp y) := ⟨_, rfl⟩
    have e3 : a.tmps[y]?.getD undef = v2 := by rw [e2]; exact (getD_eq _ _).symm
    have h2' : S.F v2 w := by rw [← e3]; exact h2
    refine ⟨f, #[v1, v2, v3, v4], ?_, hr w v2 hb h2'⟩
    unfold execOp
    rw [hop]
    simp only [resolve, List.map_toArray, List.map_cons, List.map_nil, h1, ← e2, h3, h4]
    simp [invoke, Deferred.ofValue, Act.eval, hent]
/-- Two arguments, the first known by a fact alone. -/
theorem opOb_fn2S {f : FuncId} (hent : ∀ vs w, (callFunc f vs).run P w = .ok (.enter f vs) w) {x : Tmp} {y : Operand} {S : SF} {v2 : Value} {ts : Array TypeId} {F : SF} (hg : o.guard = none) (hop : o.op = .call { callee := .value (.func f), args := #[.tmp x, y], argTypes := ts }) (hx : lk x = S) (hy : OpK lk y v2)
    (hr : ∀ w v1, Below B w0 w → S.F v1 w → Calls P f #[v1, v2] w fun e w' => ∃ v, e = .returned v ∧ F.F v w' ∧ Below w.heap.size w w') : opOb P ops B w0 o F lk :=
  opOb_call hg fun a w hb hf => by
    have h1 := hf x (by rw [hop]; simp [Op.operands, Call.operands])
    have h2 := hy.eval hf (by rw [hop]; simp [Op.operands, Call.operands])
    rw [hx] at h1
    obtain ⟨v1, e1⟩ : ∃ v1, v1 = a.eval (.tmp x) := ⟨_, rfl⟩
    have e3 : a.tmps[x]?.getD undef = v1 := by rw [e1]; exact (getD_eq _ _).symm
    have h1' : S.F v1 w := by rw [← e3]; exact h1
    refine ⟨f, #[v1, v2], ?_, hr w v1 hb h1'⟩
    unfold execOp
    rw [hop]
    simp only [resolve, List.map_toArray, List.map_cons, List.map_nil, ← e1, h2]
    simp [invoke, Deferred.ofValue, Act.eval, hent]
/-- Two arguments, both known by facts alone. -/
theorem opOb_fn2SS {f : FuncId} (hent : ∀ vs w, (callFunc f vs).run P w = .ok (.enter f vs) w) {x y : Tmp} {S T : SF} {ts : Array TypeId} {F : SF} (hg : o.guard = none) (hop : o.op = .call { callee := .value (.func f), args := #[.tmp x, .tmp y], argTypes := ts }) (hx : lk x = S) (hy : lk y = T)
    (hr : ∀ w v1 v2, Below B w0 w → S.F v1 w → T.F v2 w → Calls P f #[v1, v2] w fun e w' => ∃ v, e = .returned v ∧ F.F v w' ∧ Below w.heap.size w w') : opOb P ops B w0 o F lk :=
  opOb_call hg fun a w hb hf => by
    have h1 := hf x (by rw [hop]; simp [Op.operands, Call.operands])
    have h2 := hf y (by rw [hop]; simp [Op.operands, Call.operands])
    rw [hx] at h1
    rw [hy] at h2
    obtain ⟨v1, e1⟩ : ∃ v1, v1 = a.eval (.tmp x) := ⟨_, rfl⟩
    obtain ⟨v2, e2⟩ : ∃ v2, v2 = a.eval (.tmp y) := ⟨_, rfl⟩
    have e3 : a.tmps[x]?.getD undef = v1 := by rw [e1]; exact (getD_eq _ _).symm
    have e4 : a.tmps[y]?.getD undef = v2 := by rw [e2]; exact (getD_eq _ _).symm
    have h1' : S.F v1 w := by rw [← e3]; exact h1
    have h2' : T.F v2 w := by rw [← e4]; exact h2
    refine ⟨f, #[v1, v2], ?_, hr w v1 v2 hb h1' h2'⟩
    unfold execOp
    rw [hop]
    simp only [resolve, List.map_toArray, List.map_cons, List.map_nil, ← e1, ← e2]
    simp [invoke, Deferred.ofValue, Act.eval, hent]
/-- One argument, known by a fact alone. -/
theorem opOb_fn1S {f : FuncId} (hent : ∀ vs w, (callFunc f vs).run P w = .ok (.enter f vs) w) {x : Tmp} {S : SF} {ts : Array TypeId} {F : SF} (hg : o.guard = none) (hop : o.op = .call { callee := .value (.func f), args := #[.tmp x], argTypes := ts }) (hx : lk x = S)
    (hr : ∀ w v1, Below B w0 w → S.F v1 w → Calls P f #[v1] w fun e w' => ∃ v, e = .returned v ∧ F.F v w' ∧ Below w.heap.size w w') : opOb P ops B w0 o F lk :=
  opOb_call hg fun a w hb hf => by
    have h1 := hf x (by rw [hop]; simp [Op.operands, Call.operands])
    rw [hx] at h1
    obtain ⟨v1, e1⟩ : ∃ v1, v1 = a.eval (.tmp x) := ⟨_, rfl⟩
    have e3 : a.tmps[x]?.getD undef = v1 := by rw [e1]; exact (getD_eq _ _).symm
    have h1' : S.F v1 w := by rw [← e3]; exact h1
    refine ⟨f, #[v1], ?_, hr w v1 hb h1'⟩
    unfold execOp
    rw [hop]
    simp only [resolve, List.map_toArray, List.map_cons, List.map_nil, ← e1]
    simp [invoke, Deferred.ofValue, Act.eval, hent]
end
end Go.Proofs.YtjhgndnpihnidaaDoor
