/- A part of what the proofs stand on: TreeRunFn, TreeTwo, TreeWorkOut, TreeCopiesLaw. -/
import Derived.Test.YtlcpflaofggmeaaDoorGTre23
import Derived.Deep.CutBlock
/- The calls of a script on both trees. (Printed by a program of mine.) -/
namespace Go.Proofs.YtlcpflaofggmeaaDoor
set_option maxRecDepth 40000
open Go.RowKit
open TreeLaw TreeRun in
set_option maxHeartbeats 8000000 in
theorem run_any (w : World) (B p T : Nat) (v : TV) (l n : Nat) (A : Option Addr) (c : Nat) (x : Nat → Nat) (ht : TR w B p T v l n A c x) (hpb : B ≤ p) (hl2 : l ≤ 1073741824) (hH : v.H ≤ 576460752303423488) (A1 : Option Addr) (m c1 : Nat) (kd ix : Nat → Int) (lf : Nat → Nat) (hA1 : Rd w B A1 (m * 34) (opF kd ix lf)) (hlf : ∀ i, lf i < 256)
    (hp : ShaPkg w) (hpB : 0 < B ∧ 2 < B) (hpt : TzPkg w) (htB : 1 < B) :
    Calls Tryd.prog 17 #[tpV T, .pointer (some ⟨p, 0, none⟩), .slice A1 m c1] w fun e w' => ∃ v' n' A' c' x', e = .returned (.tuple #[]) ∧ Ran w w' B p T v A v' l n' A' c' x' ∧ v'.H ≤ v.H + 40 * 4294967296 := by
  have HT0 := Lib.hid ht
  have HpB := Lib.hid hpb
  have HA1 := Lib.hid hA1
  have HLf0 := Lib.hid hlf
  have HP := Lib.hid hp
  have HPB := Lib.hid hpB
  have HPT := Lib.hid hpt
  have HTB := Lib.hid htB
  clear ht hpb hA1 hlf hp hpB hpt htB
  go_enter Tryd.func17, Tryd.ntmps17
  go_wp2_with fail
  go_loopw [6] (fun i wr => ∃ (k : Nat) (v2 : TV) (n2 : Nat) (A2 : Option Addr) (c2 : Nat) (x2 : Nat → Nat), i = .int .i64 (k : Int) ∧ k ≤ m ∧ k ≤ 40 ∧ Ran w wr B p T v A v2 l n2 A2 c2 x2 ∧ v2.H ≤ v.H + k * 4294967296) (fun i _ => 40 - (intOf i).toNat)
  case atStart => exact ⟨0, v, n, A, c, x, rfl, Nat.zero_le _, Nat.zero_le _, Ran.refl HT0.out, Nat.le_refl _⟩
  case round =>
    obtain ⟨k, v2, n2, A2, c2, x2, rfl, hkm, hk40, hr, hH2⟩ := hrel
    have HR := Lib.hid hr
    have HHe : Hid (v2.H ≤ v.H + (k + 1) * 4294967296) := Lib.hid (Nat.le_trans hH2 (Nat.add_le_add_left (Nat.mul_le_mul_right _ (Nat.le_succ k)) _))
    have HH2 := Lib.hid hH2
    have HBk := Lib.hid (hr.base HT0.out.tm HpB.out)
    clear hr hH2
    obtain ⟨wo, rfl⟩ : ∃ wo : World, wo = wr := ⟨_, rfl⟩
    by_cases hlt : k < m
    · by_cases hlt2 : k < 40
      · obtain ⟨ad, rfl, hAb, hAc⟩ := HA1.out (by omega)
        have HAo : Hid (∀ q, q < 34 → wo.cell? ((ad.add (k * 34)).add q) = some (opF kd ix lf (k * 34 + q))) := Lib.hid (fun q hq => by
          rw [add_add, HBk.out.cell (by rw [block_of_add]; exact hAb), hAc _ (by omega)])
        clear hAb hAc
        obtain ⟨q6, hq6, hq62, hq63, hq64⟩ := cutK (kd k) 6 (by omega)
        have HQ := Lib.hid hq62
        have hkd6 : -6 < (kd k).tmod 6 ∧ (kd k).tmod 6 < 6 := ⟨hq63, hq64⟩
        clear hq62 hq63 hq64
        have HLf : Hid (∀ q, opL lf k q < 256) := Lib.hid (fun q => HLf0.out _)
        go_upto_block 1 with fail
        go_cut [7] from 8 to 55 (fun _t7 wx => ∃ v3 n3 A3 c3 x3, Ran w wx B p T v A v3 l n3 A3 c3 x3 ∧ v3.H ≤ v.H + (k + 1) * 4294967296)
        case first =>
          go_upto_block 2 with (first
            | (refine wpList_as rfl 20 rfl (.pointer (some (ad.add (k * 34)))) ?_ ?_; (· exact ex_idx rfl rfl rfl (fun w => run_idxZ (z := 34) w Tryd.underlying40 (by kernel_rfl) ad hlt) _))
            | (refine wpList_load_rd rfl 50 (.tmp 20) rfl 34 _ Tryd.underlying50 rfl (by kernel_rfl) (ad.add (k * 34)) rfl (fun j => opF kd ix lf (k * 34 + j)) HAo.out ?_)
            | (refine wpList_allocL rfl 50 7 rfl rfl (HS.nil _) (arr 34 opZf) op_zero 34 opZf (size_arr _ _) (fun i hi => arr_at _ _ i hi) ?_; intro b7 w8 hb7 hc7 hs; have HSa8 := Lib.hid hs; clear hs)
            | (refine wpList_storeH rfl 50 (.tmp 7) (.tmp 21) rfl HSa8.out 0 rfl (fun j => opF kd ix lf (k * 34 + j)) rfl rfl op_size (fun i _ => op_one kd ix lf _) ?_; intro w9 hs; have HO := Lib.hid (hs.row 0 rfl); have HBs := Lib.hid (hs.out (by simp; omega)); clear hs)
            | (refine wpList_as rfl 23 rfl (.int .i64 (kd k)) ?_ ?_; (· exact ex_ld1 .i64 rfl rfl Tryd.underlying3 (op_kd HO.out)))
            | (refine wpList_as rfl 24 rfl (.int .i64 ((kd k).tmod 6)) ?_ ?_; (· exact ex_bin rfl rfl rfl rfl (fun w => modI (kd k) 6 (by omega) w) _))
            | (refine wpList_as rfl 25 rfl (.int .i64 ((kd k).tmod 6 + 6)) ?_ ?_; (· exact ex_bin rfl rfl rfl rfl (fun w => addZ _ 6 _ rfl (by omega) w) _))
            | (refine wpList_as rfl 26 rfl (.int .i64 (q6 : Int)) ?_ ?_; (· exact ex_bin rfl rfl rfl rfl (fun w => by rw [← HQ.out]; exact modI _ 6 (by omega) w) _)))
          have HR2 := Lib.hid (HR.out.trans (Ran.below HR.out.tr HBs.out))
          have HT := Lib.hid HR2.out.tr
          have HNl : Hid (n2 ≤ l) := Lib.hid (by have h1 := HT.out.st.nle; rw [HT.out.lim] at h1; exact h1)
          have HNo : Hid (¬ v2.own T b7) := Lib.hid (fun ho => by have := HR.out.tr.tm.lt ho; omega)
          have HPo : Hid (b7 ≠ p) := Lib.hid (fun e => by have := HR.out.tr.rm.row.lt; omega)
          clear HAo HSa8 HBs HR HQ hkd6
          rcases (show q6 = 0 ∨ q6 = 1 ∨ q6 = 2 ∨ q6 = 3 ∨ q6 = 4 ∨ q6 = 5 by omega) with rfl | rfl | rfl | rfl | rfl | rfl
          ·
            go_wp2_with (first
              | (refine wpList_load_rd rfl 30 (.tmp 49) rfl 32 _ Tryd.underlying30 rfl (by kernel_rfl) ⟨b7, 2, none⟩ rfl (u8v (opL lf k)) (op_leaf (HO.out)) ?_)
              | (go_at_call 10; refine (PJ.app HT.out HLf.out (Below.refl _ _ : PJ w9 B p T v2 l n2 A2 (appM n2 l) (appX n2 l x2 (opL lf k)) 0 w9)).mono ?_; rintro r w10 ⟨_, rfl, rfl, hj⟩; have HJ1 := Lib.hid hj; have HO1 := Lib.hid (hj.row HO.out HNo.out HPo.out); clear hj)
              | (refine wpList_load_rd rfl 30 (.tmp 53) rfl 32 _ Tryd.underlying30 rfl (by kernel_rfl) ⟨b7, 2, none⟩ rfl (u8v (opL lf k)) (op_leaf (HO1.out)) ?_)
              | (go_at_call 23; refine (PJ.rapp HT.out hl2 HLf.out HJ1.out).mono ?_; rintro r w11 ⟨_, rfl, rfl, hj⟩; have HJ2 := Lib.hid hj; clear hj))
            obtain ⟨v3, A3, c3, hr, hH, _⟩ := HJ2.out.done
            have HR3 := Lib.hid (HR2.out.trans hr)
            have HH3 := Lib.hid hH
            clear hr hH
            go_meet
            case rel => exact ⟨v3, appM n2 l, A3, c3, appX n2 l x2 (opL lf k), HR3.out, by rw [HH3.out]; exact HHe.out⟩
          ·
            go_wp2_with (first
              | (refine wpList_as rfl 31 rfl (.int .i64 (ix k)) ?_ ?_; (· exact ex_ld1 .i64 rfl rfl Tryd.underlying3 (op_ix (HO.out))))
              | (refine wpList_load_rd rfl 30 (.tmp 32) rfl 32 _ Tryd.underlying30 rfl (by kernel_rfl) ⟨b7, 2, none⟩ rfl (u8v (opL lf k)) (op_leaf (HO.out)) ?_)
              | (go_at_call 11; refine (PJ.set (ix k) HT.out HLf.out (Below.refl _ _ : PJ w9 B p T v2 l n2 A2 (n2) (setX n2 x2 (ix k) (opL lf k)) 0 w9)).mono ?_; rintro r w10 ⟨_, rfl, rfl, hj⟩; have HJ1 := Lib.hid hj; have HO1 := Lib.hid (hj.row HO.out HNo.out HPo.out); clear hj)
              | (refine wpList_as rfl 37 rfl (.int .i64 (ix k)) ?_ ?_; (· exact ex_ld1 .i64 rfl rfl Tryd.underlying3 (op_ix (HO1.out))))
              | (refine wpList_load_rd rfl 30 (.tmp 38) rfl 32 _ Tryd.underlying30 rfl (by kernel_rfl) ⟨b7, 2, none⟩ rfl (u8v (opL lf k)) (op_leaf (HO1.out)) ?_)
              | (go_at_call 20; refine (PJ.rset (ix k) HT.out (by have := HNl.out; omega) HLf.out HJ1.out).mono ?_; rintro r w11 ⟨_, rfl, rfl, hj⟩; have HJ2 := Lib.hid hj; clear hj))
            obtain ⟨v3, A3, c3, hr, hH, _⟩ := HJ2.out.done
            have HR3 := Lib.hid (HR2.out.trans hr)
            have HH3 := Lib.hid hH
            clear hr hH
            go_meet
            case rel => exact ⟨v3, n2, A3, c3, setX n2 x2 (ix k) (opL lf k), HR3.out, by rw [HH3.out]; exact HHe.out⟩
          ·
            go_wp2_with (go_at_call 12; refine (troot_any v2 B T n2 x2 _ HT.out.tm HT.out.st (by have := HH2.out; omega) (HP.out.base HPB.out (HR2.out.base HT0.out.tm HpB.out)) HPB.out (HPT.out.below (HR2.out.base HT0.out.tm HpB.out) HTB.out)).mono ?_; rintro r w10 ⟨v3, rfl, h1, h2, h3, _, h5⟩; have HR3 := Lib.hid (HR2.out.trans (Ran.tstep HT.out h1 h2 h3)); have HH3 := Lib.hid h5; clear h1 h2 h3 h5)
            go_meet
            case rel => exact ⟨v3, n2, A2, c2, x2, HR3.out, by
              have h1 := cost_le n2 (dirB v2.dn v2.dw) v2.D
              have h2 := HT.out.st.D30
              have h3 := HH2.out
              have h4 := HNl.out
              rw [HH3.out]
              omega⟩
          · go_wp2_with fail
            go_meet
            case rel => exact ⟨v2, n2, A2, c2, x2, HR2.out, HHe.out⟩
          · go_wp2_with fail
            go_meet
            case rel => exact ⟨v2, n2, A2, c2, x2, HR2.out, HHe.out⟩
          ·
            go_wp2_with (first
              | (refine wpList_load_rd rfl 30 (.tmp 49) rfl 32 _ Tryd.underlying30 rfl (by kernel_rfl) ⟨b7, 2, none⟩ rfl (u8v (opL lf k)) (op_leaf (HO.out)) ?_)
              | (go_at_call 10; refine (PJ.app HT.out HLf.out (Below.refl _ _ : PJ w9 B p T v2 l n2 A2 (appM n2 l) (appX n2 l x2 (opL lf k)) 0 w9)).mono ?_; rintro r w10 ⟨_, rfl, rfl, hj⟩; have HJ1 := Lib.hid hj; have HO1 := Lib.hid (hj.row HO.out HNo.out HPo.out); clear hj)
              | (refine wpList_load_rd rfl 30 (.tmp 53) rfl 32 _ Tryd.underlying30 rfl (by kernel_rfl) ⟨b7, 2, none⟩ rfl (u8v (opL lf k)) (op_leaf (HO1.out)) ?_)
              | (go_at_call 23; refine (PJ.rapp HT.out hl2 HLf.out HJ1.out).mono ?_; rintro r w11 ⟨_, rfl, rfl, hj⟩; have HJ2 := Lib.hid hj; clear hj))
            obtain ⟨v3, A3, c3, hr, hH, _⟩ := HJ2.out.done
            have HR3 := Lib.hid (HR2.out.trans hr)
            have HH3 := Lib.hid hH
            clear hr hH
            go_meet
            case rel => exact ⟨v3, appM n2 l, A3, c3, appX n2 l x2 (opL lf k), HR3.out, by rw [HH3.out]; exact HHe.out⟩
        case rest =>
          obtain ⟨v3, n3, A3, c3, x3, h1, h2⟩ := hcut
          have HR3 := Lib.hid h1
          have HH3 := Lib.hid h2
          clear h1 h2 HR HHe HH2
          go_wp2_with fail
          go_roundw
          case rel => exact ⟨k + 1, v3, n3, A3, c3, x3, by go_num, by omega, by omega, HR3.out, HH3.out⟩
          case measure => simp [intOf]; omega
      · have hke : 40 ≤ k := by omega
        go_wp2_with fail
        go_end0
        exact ⟨v2, n2, A2, c2, x2, rfl, HR.out, Nat.le_trans HH2.out (by omega)⟩
    · have hke : m ≤ k := by omega
      go_wp2_with fail
      go_end0
      exact ⟨v2, n2, A2, c2, x2, rfl, HR.out, Nat.le_trans HH2.out (by omega)⟩
end Go.Proofs.YtlcpflaofggmeaaDoor
/- Two trees with their references, side by side: what calls on one do leaves the other. -/
namespace Go.Proofs.YtlcpflaofggmeaaDoor
set_option maxRecDepth 40000
open Go.RowKit
/-- Two pairs: no block that one writes is the other's. -/
structure Two (w : World) (B l p T : Nat) (v : TV) (n : Nat) (A : Option Addr) (c : Nat) (x : Nat → Nat) (q U : Nat) (u : TV) (m : Nat) (D : Option Addr) (d : Nat) (y : Nat → Nat) : Prop where
  a : TR w B p T v l n A c x
  b : TR w B q U u l m D d y
  la : ∀ b, OnA A b → b < w.heap.size ∧ ¬ v.own T b
  lb : ∀ b, OnA D b → b < w.heap.size ∧ ¬ u.own U b
  ab : ∀ b, (v.own T b ∨ b = p) → ¬ ((u.own U b ∨ OnA u.zA b) ∨ b = q ∨ OnA D b)
  ba : ∀ b, (u.own U b ∨ b = q) → ¬ ((v.own T b ∨ OnA v.zA b) ∨ b = p ∨ OnA A b)
section
variable {w w' : World} {B l p q T U n m n' c d c' : Nat} {v u v' : TV} {A D A' : Option Addr} {x y x' : Nat → Nat}
theorem Two.swap (h : Two w B l p T v n A c x q U u m D d y) : Two w B l q U u m D d y p T v n A c x := ⟨h.b, h.a, h.lb, h.la, h.ba, h.ab⟩
theorem Two.left (h : Two w B l p T v n A c x q U u m D d y) (r : Ran w w' B p T v A v' l n' A' c' x') : Two w' B l p T v' n' A' c' x' q U u m D d y where
  a := r.tr
  b := h.b.chg r.chg (fun b hb hs => h.ab b hs (by
    rcases hb with hb | hb | hb
    · exact .inl hb
    · exact .inr (.inl hb)
    · exact .inr (.inr hb.2)))
  la := fun b hb => ⟨by
    rcases r.newA b hb with h1 | h1
    · exact Nat.lt_of_lt_of_le (h.la b h1).1 r.chg.size
    · exact h1.2, r.ownA h.la b hb⟩
  lb := fun b hb => ⟨Nat.lt_of_lt_of_le (h.lb b hb).1 r.chg.size, (h.lb b hb).2⟩
  ab := fun b hb ho => by
    rcases hb with hb | hb
    · rcases r.new b hb with h1 | h1
      · exact h.ab b (.inl h1) ho
      · rcases ho with (ho | ho) | ho | ho
        · have := h.b.tm.lt ho; omega
        · have := h.b.tm.zlt ho; omega
        · have := h.b.rm.row.lt; omega
        · have := (h.lb b ho).1; omega
    · exact h.ab b (.inr hb) ho
  ba := fun b hb ho => by
    have hlt : b < w.heap.size := by
      rcases hb with hb | hb
      · exact h.b.tm.lt hb
      · rw [hb]; exact h.b.rm.row.lt
    rcases ho with (ho | ho) | ho | ho
    · rcases r.new b ho with h1 | h1
      · exact h.ba b hb (.inl (.inl h1))
      · omega
    · rw [r.zA] at ho
      exact h.ba b hb (.inl (.inr ho))
    · exact h.ba b hb (.inr (.inl ho))
    · rcases r.newA b ho with h1 | h1
      · exact h.ba b hb (.inr (.inr h1))
      · omega
theorem Two.below (h : Two w B l p T v n A c x q U u m D d y) (hb : Below w.heap.size w w') : Two w' B l p T v n A c x q U u m D d y :=
  h.left (Ran.below h.a hb)
/-- A copy of a pair. -/
theorem Two.start (h : TR w B p T v l n A c x) (hla : ∀ b, OnA A b → b < w.heap.size ∧ ¬ v.own T b) {T2 : Nat} {v2 : TV} (hm : TM w' B T2 v2) (hst : TSt v2 n x) (hl : v2.lim = v.lim) (hD : v2.D = v.D) (hz : v2.zA = v.zA) (ho : ∀ b, v2.own T2 b → w.heap.size ≤ b) (hb : Below w.heap.size w w') (hr : w'.rowIs q 42 2 (rfF l A n c)) (hq : w.heap.size ≤ q) (hq2 : ¬ v2.own T2 q) : Two w' B l p T v n A c x q T2 v2 n A c x where
  a := h.below hb
  b := {
    tm := hm
    st := hst
    rm := ⟨hr, (h.below hb).rm.rd, h.rm.cap, fun b hA e => by have := (hla b hA).1; omega⟩
    lim := hl.trans h.lim
    D := hD.trans h.D
    x8 := h.x8
    np := hq2
    nz := fun hz2 => by rw [hz] at hz2; have := h.tm.zlt hz2; omega
    nA := fun hn b hA h1 => by have := ho b h1; have := (hla b hA).1; omega }
  la := fun b hA => ⟨Nat.lt_of_lt_of_le (hla b hA).1 hb.size, (hla b hA).2⟩
  lb := fun b hA => ⟨Nat.lt_of_lt_of_le (hla b hA).1 hb.size, fun h1 => by have := ho b h1; have := (hla b hA).1; omega⟩
  ab := fun b hb2 hx => by
    have hlt : b < w.heap.size := by
      rcases hb2 with hb2 | hb2
      · exact h.tm.lt hb2
      · rw [hb2]; exact h.rm.row.lt
    rcases hx with (hx | hx) | hx | hx
    · have := ho b hx; omega
    · rw [hz] at hx
      rcases hb2 with hb2 | hb2
      · exact h.tm.zapart b hx hb2
      · subst hb2; exact h.nz hx
    · omega
    · rcases hb2 with hb2 | hb2
      · exact (hla b hx).2 hb2
      · exact h.rm.apart b hx hb2
  ba := fun b hb2 hx => by
    have hge : w.heap.size ≤ b := by
      rcases hb2 with hb2 | hb2
      · exact ho b hb2
      · omega
    rcases hx with (hx | hx) | hx | hx
    · have := h.tm.lt hx; omega
    · have := h.tm.zlt hx; omega
    · have := h.rm.row.lt; omega
    · have := (hla b hx).1; omega
end
end Go.Proofs.YtlcpflaofggmeaaDoor
/- Where there is no tree of this limit. (Printed by a program of mine.) -/
namespace Go.Proofs.YtlcpflaofggmeaaDoor
set_option maxRecDepth 40000
open Go.RowKit
namespace TreeWork
/-- At the head of a list of operations, and nowhere else. -/
theorem at_l {P : Program} {ops : Array Oper} {Q : Exit → Act → World → Prop} {l : List Oper} {a : Act} {w : World} (h : wpList P ops Q l a w) : wpList P ops Q l a w := h
theorem lim_out {L : Int} (h : L < 1 ∨ 1073741824 < L) : limB L = false := by
  unfold limB
  rcases h with h | h
  · rw [decide_eq_false (show ¬ 1 ≤ L by omega)]; rfl
  · rw [decide_eq_false (show ¬ L ≤ 1073741824 by omega), Bool.and_false]
end TreeWork
open TreeLaw TreeAwake TreeWork in
set_option maxHeartbeats 4000000 in
theorem work_out (w : World) (L : Int) (h : L < 1 ∨ 1073741824 < L) (A1 : Option Addr) (m c1 : Nat) (hp : ShaPkg w) (hpt : TzPkg w) :
    Calls Tryd.prog 6 #[.int .i64 L, .slice A1 m c1] w fun e w' => e = .returned (.bool true) ∧ Below w.heap.size w w' := by
  have HP := Lib.hid hp
  have HPT := Lib.hid hpt
  have HLim := Lib.hid (lim_out h)
  have HLo := Lib.hid h
  clear hp hpt h
  go_enter Tryd.func6, Tryd.ntmps6
  go_wp2_with (first
    | (go_at_call 8; refine (awake06_any _ HP.out HPT.out).mono ?_; rintro r w1 ⟨rfl, hb⟩; have HB1 := Lib.hid hb; clear hb)
    | (go_at_call 9; refine (tnew_out L HLo.out _).mono ?_; rintro r w2 ⟨rfl, hw2⟩; rw [hw2]; clear hw2 w2)
    | (go_at_call 16; refine (rnew_look L _).mono ?_; rintro r w3 ⟨rfl, hb⟩; rw [HLim.out]; have HB3 := Lib.hid (HB1.out.trans (hb.mono HB1.out.size)); clear hb)
    | (refine wpList_allocL rfl 42 6 rfl rfl (HS.nil _) (arr 2 (rfI 0)) TreeRef6B.zero_rf 2 (rfI 0) (size_arr _ _) (fun i hi => arr_at _ _ i hi) ?_; intro b6 w4 hb6 hc6 hs; have HSa4 := Lib.hid hs; clear hs)
    | (refine wpList_storeH rfl 42 (.tmp 6) (.tmp 21) rfl HSa4.out 0 rfl (rfI L) rfl rfl (by kernel_rfl) (fun i _ => by unfold rfI; split <;> rfl) ?_; intro w5 hs; have HB5 := Lib.hid (HB3.out.trans ((hs.out (by simp; omega)).mono HB3.out.size)); clear hs))
  go_ret
  exact ⟨rfl, HB5.out⟩
end Go.Proofs.YtlcpflaofggmeaaDoor
/- Trees and their copies go their own ways. (Printed by a program of mine.) -/
namespace Go.Proofs.YtlcpflaofggmeaaDoor
set_option maxRecDepth 40000
open Go.RowKit
namespace TreeCopies
theorem ent_rroot (vs : Array Value) (w : World) : (callFunc 19 vs).run Tryd.prog w = .ok (.enter 19 vs) w := by kernel_rfl
theorem lim_in {l : Nat} (h1 : 1 ≤ l) (h2 : l ≤ 1073741824) : limB (l : Int) = true := by
  unfold limB; simp; omega
theorem op_shift (kd ix : Nat → Int) (lf : Nat → Nat) (k : Nat) : (fun j => opF kd ix lf (k * 34 + j)) = opF (fun i => kd (k + i)) (fun i => ix (k + i)) (fun j => lf (k * 34 + j)) := by
  funext j
  unfold opF
  rw [show (k * 34 + j) % 34 = j % 34 by omega, show (k * 34 + j) / 34 = k + j / 34 by omega]
theorem cut_one {A : Option Addr} {n c k : Nat} {w : World} {B : Nat} {kd ix : Nat → Int} {lf : Nat → Nat} (hk : k < n) (hnc : n ≤ c) (hr : Rd w B A (n * 34) (opF kd ix lf)) :
    ∃ A', (∀ w1, (Instr.sliceAt 40 (.slice A n c) (some (.int .i64 (k : Int))) (some (.int .i64 ((k + 1 : Nat) : Int))) none).run Tryd.prog w1 = .ok (.slice A' 1 (c - k)) w1) ∧ Rd w B A' (1 * 34) (opF (fun i => kd (k + i)) (fun i => ix (k + i)) (fun j => lf (k * 34 + j))) := by
  obtain ⟨A', h1, h2⟩ := cut_midZ (z := 34) Tryd.underlying40 (by kernel_rfl) (by omega) A n c k (k + 1) _ _ (.inr rfl) (.inr rfl) (Nat.le_succ k) hk hnc
  rw [show k + 1 - k = 1 by omega] at h1
  have h3 := h2 w B _ (hr.short (Nat.mul_le_mul_right _ hk))
  rw [show k + 1 - k = 1 by omega, op_shift] at h3
  exact ⟨A', h1, h3⟩
/-- Two pairs whose roots are asked for, one behind the other. -/
def TwoJ (w0 : World) (B l p T : Nat) (v : TV) (n : Nat) (A : Option Addr) (c : Nat) (x : Nat → Nat) (q U : Nat) (u : TV) (m : Nat) (D : Option Addr) (d : Nat) (y : Nat → Nat) (k : Nat) (wj : World) : Prop :=
  ∃ v' u', Two wj B l p T v' n A c x q U u' m D d y ∧ Below B w0 wj ∧ (k = 0 → v'.H = v.H) ∧ v'.H ≤ v.H + 4294967296 ∧ (k ≤ 1 → u'.H = u.H) ∧ u'.H ≤ u.H + 4294967296
section
variable {w0 wj w' : World} {B l p q T U n m c d k : Nat} {v u : TV} {A D : Option Addr} {x y : Nat → Nat}
theorem TwoJ.start (h : Two w0 B l p T v n A c x q U u m D d y) : TwoJ w0 B l p T v n A c x q U u m D d y 0 w0 := ⟨v, u, h, Below.refl _ _, fun _ => rfl, by omega, fun _ => rfl, by omega⟩
theorem TwoJ.below (h : TwoJ w0 B l p T v n A c x q U u m D d y k wj) (hb : Below wj.heap.size wj w') : TwoJ w0 B l p T v n A c x q U u m D d y k w' := by
  obtain ⟨v', u', h1, h2, h3⟩ := h
  exact ⟨v', u', h1.below hb, h2.trans (hb.mono h1.a.tm.base_le), h3⟩
theorem TwoJ.rowA (h : TwoJ w0 B l p T v n A c x q U u m D d y k wj) : wj.rowIs p 42 2 (rfF l A n c) := by
  obtain ⟨v', u', h1, _⟩ := h; exact h1.a.rm.row
theorem TwoJ.rowB (h : TwoJ w0 B l p T v n A c x q U u m D d y k wj) : wj.rowIs q 42 2 (rfF l D m d) := by
  obtain ⟨v', u', h1, _⟩ := h; exact h1.b.rm.row
theorem len_of {v' : TV} (h : TR wj B p T v' l n A c x) {w2 : World} (hb : Below wj.heap.size wj w2) : Calls Tryd.prog 14 #[tpV T] w2 fun e w' => ∃ r, e = .returned r ∧ r = .int .i64 (n : Int) ∧ Below w2.heap.size w2 w' := by
  refine (tlen_look v' B T w2 (h.tm.below hb)).mono ?_
  rintro e w3 ⟨he, hw⟩
  exact ⟨_, he, by rw [h.st.n0], by subst hw; exact Below.refl _ _⟩
theorem TwoJ.lenA (h : TwoJ w0 B l p T v n A c x q U u m D d y k wj) {w2 : World} (hb : Below wj.heap.size wj w2) : Calls Tryd.prog 14 #[tpV T] w2 fun e w' => ∃ r, e = .returned r ∧ r = .int .i64 (n : Int) ∧ Below w2.heap.size w2 w' := by
  obtain ⟨v', u', h1, _⟩ := h; exact len_of h1.a hb
theorem TwoJ.lenB (h : TwoJ w0 B l p T v n A c x q U u m D d y k wj) {w2 : World} (hb : Below wj.heap.size wj w2) : Calls Tryd.prog 14 #[tpV U] w2 fun e w' => ∃ r, e = .returned r ∧ r = .int .i64 (m : Int) ∧ Below w2.heap.size w2 w' := by
  obtain ⟨v', u', h1, _⟩ := h; exact len_of h1.b hb
theorem rroot_of {v' : TV} (h : TR wj B p T v' l n A c x) (hl2 : l ≤ 1073741824) (hpr : RefPkg wj) {w2 : World} (hb : Below wj.heap.size wj w2) : Calls Tryd.prog 19 #[.agg (arr 2 (rfF l A n c))] w2 fun e w' => ∃ r, e = .returned r ∧ r = rootV (treeN (dep l) n x) ∧ Below w2.heap.size w2 w' := by
  have hn : n ≤ l := by have h1 := h.st.nle; rw [h.lim] at h1; exact h1
  refine (rroot_look l n c A x w2 (h.below hb).rm.rd h.x8 h.rm.cap hl2 hn (hpr.below hb)).mono ?_
  rintro e w3 ⟨he, hb2⟩
  exact ⟨_, he, rfl, hb2⟩
theorem TwoJ.rrootA (h : TwoJ w0 B l p T v n A c x q U u m D d y k wj) (hl2 : l ≤ 1073741824) (hpr : ∀ wz, Below B w0 wz → RefPkg wz) {w2 : World} (hb : Below wj.heap.size wj w2) : Calls Tryd.prog 19 #[.agg (arr 2 (rfF l A n c))] w2 fun e w' => ∃ r, e = .returned r ∧ r = rootV (treeN (dep l) n x) ∧ Below w2.heap.size w2 w' := by
  obtain ⟨v', u', h1, h2, _⟩ := h; exact rroot_of h1.a hl2 (hpr _ h2) hb
theorem TwoJ.rrootB (h : TwoJ w0 B l p T v n A c x q U u m D d y k wj) (hl2 : l ≤ 1073741824) (hpr : ∀ wz, Below B w0 wz → RefPkg wz) {w2 : World} (hb : Below wj.heap.size wj w2) : Calls Tryd.prog 19 #[.agg (arr 2 (rfF l D m d))] w2 fun e w' => ∃ r, e = .returned r ∧ r = rootV (treeN (dep l) m y) ∧ Below w2.heap.size w2 w' := by
  obtain ⟨v', u', h1, h2, _⟩ := h; exact rroot_of h1.b hl2 (hpr _ h2) hb
theorem root_of {v' : TV} (h : TR wj B p T v' l n A c x) (hpB0 : B ≤ p) (hH : v'.H ≤ 1152921504606846976) (hp : ShaPkg wj) (hpB : 0 < B ∧ 2 < B) (hpt : TzPkg wj) : Calls Tryd.prog 12 #[tpV T] wj fun e w' => e = .returned (rootV (treeN (dep l) n x)) ∧ ∃ v2, Ran wj w' B p T v' A v2 l n A c x ∧ v2.H ≤ v'.H + 4294967296 ∧ Below B wj w' := by
  refine (troot_any v' B T n x wj h.tm h.st hH hp hpB hpt).mono ?_
  rintro e w2 ⟨v2, he, k1, k2, k3, _, k5⟩
  have hr := Ran.tstep h k1 k2 k3
  refine ⟨by rw [he, h.D], v2, hr, ?_, hr.base h.tm hpB0⟩
  have h1 := TreeLaw.cost_le n (dirB v'.dn v'.dw) v'.D
  have h2 := h.st.D30
  have h3 := h.st.nle
  have h4 := h.st.lim
  omega
theorem TwoJ.rootA (h : TwoJ w0 B l p T v n A c x q U u m D d y 0 wj) (hpB0 : B ≤ p) (hH : v.H ≤ 576460752303423488) (hp : ShaPkg w0) (hpB : 0 < B ∧ 2 < B) (hpt : TzPkg w0) (htB : 1 < B) : Calls Tryd.prog 12 #[tpV T] wj fun e w' => ∃ r, e = .returned r ∧ r = rootV (treeN (dep l) n x) ∧ TwoJ w0 B l p T v n A c x q U u m D d y 1 w' := by
  obtain ⟨v', u', h1, h2, h3, h4, h5, h6⟩ := h
  have h3 := h3 rfl
  refine (root_of h1.a hpB0 (by omega) (hp.base hpB h2) hpB (hpt.below h2 htB)).mono ?_
  rintro e w2 ⟨he, v2, hr, hH2, hb⟩
  exact ⟨_, he, rfl, v2, u', h1.left hr, h2.trans hb, fun e => by omega, by omega, fun _ => h5 (by omega), h6⟩
theorem TwoJ.rootB (h : TwoJ w0 B l p T v n A c x q U u m D d y 1 wj) (hpB0 : B ≤ q) (hH : u.H ≤ 576460752303423488) (hp : ShaPkg w0) (hpB : 0 < B ∧ 2 < B) (hpt : TzPkg w0) (htB : 1 < B) : Calls Tryd.prog 12 #[tpV U] wj fun e w' => ∃ r, e = .returned r ∧ r = rootV (treeN (dep l) m y) ∧ TwoJ w0 B l p T v n A c x q U u m D d y 2 w' := by
  obtain ⟨v', u', h1, h2, h3, h4, h5, h6⟩ := h
  have h5 := h5 (Nat.le_refl _)
  refine (root_of h1.b hpB0 (by omega) (hp.base hpB h2) hpB (hpt.below h2 htB)).mono ?_
  rintro e w2 ⟨he, u2, hr, hH2, hb⟩
  exact ⟨_, he, rfl, v', u2, (h1.swap.left hr).swap, h2.trans hb, fun e => by omega, h4, fun e => by omega, by omega⟩
end
end TreeCopies
open TreeLaw TreeAwake TreeGet TreeRun TreeCopies in
set_option maxHeartbeats 16000000 in
theorem copies_in (w : World) (l : Nat) (hl1 : 1 ≤ l) (hl2 : l ≤ 1073741824)
    (F1 : Option Addr) (m1 q1 : Nat) (kd1 ix1 : Nat → Int) (lf1 : Nat → Nat) (hA1 : Rd w w.heap.size F1 (m1 * 34) (opF kd1 ix1 lf1)) (hf1 : ∀ i, lf1 i < 256)
    (F2 : Option Addr) (m2 q2 : Nat) (kd2 ix2 : Nat → Int) (lf2 : Nat → Nat) (hA2 : Rd w w.heap.size F2 (m2 * 34) (opF kd2 ix2 lf2)) (hf2 : ∀ i, lf2 i < 256) (hq2 : m2 ≤ q2)
    (F3 : Option Addr) (m3 q3 : Nat) (kd3 ix3 : Nat → Int) (lf3 : Nat → Nat) (hA3 : Rd w w.heap.size F3 (m3 * 34) (opF kd3 ix3 lf3)) (hf3 : ∀ i, lf3 i < 256) (hq3 : m3 ≤ q3)
    (hp : ShaPkg w) (hpr : RefPkg w) (hpt : TzPkg w) :
    Calls Tryd.prog 5 #[.int .i64 (l : Int), .slice F1 m1 q1, .slice F2 m2 q2, .slice F3 m3 q3] w fun e w' => e = .returned (.bool true) ∧ Below w.heap.size w w' := by
  have HP := Lib.hid hp
  have HPT := Lib.hid hpt
  have HPR := Lib.hid hpr
  have HPB := Lib.hid hp.lt
  have HTB := Lib.hid hpt.lt
  have HA1 := Lib.hid hA1
  have HA2 := Lib.hid hA2
  have HA3 := Lib.hid hA3
  have HF1 := Lib.hid hf1
  have HF2 := Lib.hid hf2
  have HF3 := Lib.hid hf3
  have HQ2 := Lib.hid hq2
  have HQ3 := Lib.hid hq3
  have HLim := Lib.hid (lim_in hl1 hl2)
  clear hp hpt hpr hA1 hA2 hA3 hf1 hf2 hf3 hq2 hq3
  go_enter Tryd.func5, Tryd.ntmps5
  go_upto_region 7 with (first
    | (go_at_call 8; refine (awake06_any _ HP.out HPT.out).mono ?_; rintro r w1 ⟨rfl, hb⟩; have HB1 := Lib.hid hb; clear hb)
    | (go_at_call 9; refine (tnew_look l (by omega) (by omega) _ (HP.out.below HB1.out)).mono ?_; rintro r w2 ⟨T, v0, rfl, hm, hst, hl, hH, hD, hd, hb⟩; have HM2 := Lib.hid (TM.mono hm HB1.out.size); have HT2 := Lib.hid hst; have HL2 := Lib.hid hl; have HH2 := Lib.hid hH; have HD2 := Lib.hid hD; have HB2 := Lib.hid (HB1.out.trans (hb.mono HB1.out.size)); clear hm hst hl hH hD hd hb)
    | (go_at_call 16; refine (rnew_look (l : Int) _).mono ?_; rintro r w3 ⟨rfl, hb⟩; rw [HLim.out, rfI_nat]; have HB3 := Lib.hid hb; clear hb)
    | (refine wpList_allocL rfl 42 10 rfl rfl (HS.nil _) (arr 2 (rfI 0)) TreeRef6B.zero_rf 2 (rfI 0) (size_arr _ _) (fun i hi => arr_at _ _ i hi) ?_; intro b10 w4 hb10 hc10 hs; have HSa4 := Lib.hid hs; clear hs)
    | (refine wpList_storeH rfl 42 (.tmp 10) (.tmp 22) rfl HSa4.out 0 rfl (rfF l none 0 0) rfl rfl (by kernel_rfl) (fun i _ => by unfold rfF; split <;> rfl) ?_; intro w5 hs; have HR5 := Lib.hid (hs.row 0 rfl); have HB5 := Lib.hid (HB3.out.trans ((hs.out (by simp; omega)).mono HB3.out.size)); clear hs))
  have HpB : Hid (w.heap.size ≤ b10) := Lib.hid (by have := HB3.out.size; have := HB2.out.size; omega)
  have hTR : TR w5 w.heap.size b10 T v0 l 0 none 0 (fun _ => 0) :=
    { tm := HM2.out.below HB5.out, st := HT2.out, rm := ⟨HR5.out, (by rw [Nat.zero_mul]; exact Rd.none_), Nat.le_refl _, fun b hb => by obtain ⟨ad, e, _⟩ := hb; cases e⟩, lim := HL2.out, D := HD2.out, x8 := fun _ => by omega, np := fun ho => by have := HM2.out.lt ho; have := HB3.out.size; omega, nz := fun hz => by have := HM2.out.zlt hz; have := HB3.out.size; omega, nA := fun h => by omega }
  have HT0 := Lib.hid hTR
  have HBw5 := Lib.hid (HB2.out.trans (HB5.out.mono HB2.out.size))
  clear hTR HM2 HT2 HR5 HSa4 HB3 HB5 HD2 HL2
  go_upto_region 10 with (first
    | (go_at_call 17; refine (run_any _ w.heap.size b10 T v0 l 0 none 0 (fun _ => 0) HT0.out HpB.out hl2 (by rw [HH2.out]; omega) F1 m1 q1 kd1 ix1 lf1 (HA1.out.below HBw5.out) HF1.out (HP.out.below HBw5.out) HPB.out (HPT.out.below HBw5.out HTB.out) HTB.out).mono ?_; rintro r w6 ⟨v, n, A, c, x, rfl, hr, hH⟩; have HR6 := Lib.hid hr; have HH6 : Hid (v.H ≤ 171798691840) := Lib.hid (by rw [HH2.out] at hH; omega); have HB6 := Lib.hid (HBw5.out.trans (hr.base HT0.out.tm HpB.out)); clear hr hH)
    | (go_at_call 18; refine (tcopy_look v w.heap.size T n x _ HR6.out.tr.tm HR6.out.tr.st).mono ?_; rintro r w7 ⟨U, u0, rfl, h1, h2, h3, h4, h5, h6, _, h8, h9⟩; have HC1 := Lib.hid h1; have HC2 := Lib.hid h2; have HC3 := Lib.hid h3; have HC4 := Lib.hid h4; have HC5 := Lib.hid h5; have HC6 := Lib.hid h6; have HC8 := Lib.hid h8; have HC9 := Lib.hid h9; have HRw7 := Lib.hid (HR6.out.tr.below h9).rm.row; clear h1 h2 h3 h4 h5 h6 h8 h9)
    | (refine wpList_load_rd rfl 42 (.tmp 10) rfl 2 _ Tryd.underlying42 rfl (by kernel_rfl) ⟨b10, 0, none⟩ rfl (rfF l A n c) (fun i hi => by rw [add_lit0]; exact HRw7.out.cell hi) ?_)
    | (refine wpList_allocL rfl 42 13 rfl rfl (HS.nil _) (arr 2 (rfI 0)) TreeRef6B.zero_rf 2 (rfI 0) (size_arr _ _) (fun i hi => arr_at _ _ i hi) ?_; intro b13 w8 hb13 hc13 hs; have HSa8 := Lib.hid hs; clear hs)
    | (refine wpList_storeH rfl 42 (.tmp 13) (.tmp 41) rfl HSa8.out 0 rfl (rfF l A n c) rfl rfl (by kernel_rfl) (fun i _ => by unfold rfF; split <;> rfl) ?_; intro w9 hs; have HR9 := Lib.hid (hs.row 0 rfl); have HB9 := Lib.hid (hs.out (by simp; omega)); clear hs))
  have HqB : Hid (w.heap.size ≤ b13) := Lib.hid (by have := HB6.out.size; have := HC9.out.size; omega)
  have hTwo : Two w9 w.heap.size l b10 T v n A c x b13 U u0 n A c x :=
    Two.start HR6.out.tr (fun b hb => ⟨by
      rcases HR6.out.newA b hb with h1 | h1
      · obtain ⟨ad, e, _⟩ := h1; cases e
      · exact h1.2, HR6.out.ownA (fun b hb => by obtain ⟨ad, e, _⟩ := hb; cases e) b hb⟩)
      (HC1.out.below HB9.out) HC2.out HC3.out HC4.out HC5.out HC8.out (HC9.out.trans (HB9.out.mono HC9.out.size)) HR9.out (by have := HC9.out.size; omega) (fun ho => by have := HC1.out.lt ho; omega)
  have HTwo := Lib.hid hTwo
  have HBw9 := Lib.hid (HB6.out.trans ((HC9.out.trans (HB9.out.mono HC9.out.size)).mono HB6.out.size))
  have HU60 : Hid (u0.H ≤ 576460752303423488) := Lib.hid (by rw [HC6.out]; omega)
  obtain ⟨Z, hZ⟩ : ∃ Z, treeN (dep l) n x = Z := ⟨_, rfl⟩
  have HZ := Lib.hid hZ
  have HPs := Lib.hid (HP.out.below HBw9.out)
  have HPTs := Lib.hid (HPT.out.below HBw9.out HTB.out)
  have HPRs : Hid (∀ wz, Below w.heap.size w9 wz → RefPkg wz) := Lib.hid (fun wz hb => HPR.out.below (HBw9.out.trans hb))
  clear hTwo hZ HR6 HC1 HC2 HC3 HC4 HC5 HC8 HC9 HRw7 HSa8 HR9 HB9 HT0 HBw5 HB6 hb13 hc13 hb10 hc10
  refine wp_region_stage (l := [_, _, _, _, _, _, _, _, _]) (N := 1) (TwoJ w9 w.heap.size l b13 U u0 n A c x b10 T v n A c x) [SF.is (tpV U), SF.is (.bool false), SF.is (.bool false), SF.is (tpV U), SF.is (rootV Z), SF.is (.agg (arr 2 (rfF l A n c))), SF.is (rootV Z), SF.is (.bool false), SF.is (.bool false)] [none, none, none, none, some 0, none, none, none, none] (by kernel_rfl) (by kernel_rfl) (by kernel_rfl) rfl rfl (fun k w1 w2 hj hb => hj.below hb) (pure_is (Fs := [tpV U, .bool false, .bool false, tpV U, rootV Z, .agg (arr 2 (rfF l A n c)), rootV Z, .bool false, .bool false])) (TwoJ.start HTwo.out.swap) ⟨?_, ?_, ?_, ?_, ?_, ?_, ?_, ?_, ?_, trivial⟩ ?_
  · exact fun kj wj hj => (opOb_move _ rfl (.inl rfl) rfl)
  · exact fun kj wj hj => opOb_eqNil _ Tryd.underlying25 rfl rfl (OpK.tmp rfl)
  · exact fun kj wj hj => (opOb_move _ rfl (.inl rfl) rfl)
  · exact fun kj wj hj => opOb_on 44 rfl rfl ((opOb_move _ rfl (.inl rfl) rfl))
  · exact opJ_on 44 rfl rfl (opJ_fn1 TreeLaw.ent_root rfl rfl (OpK.tmp rfl) (fun wj hj => (hj.rootA HqB.out HU60.out HPs.out HPB.out HPTs.out HTB.out).mono fun e w2 ⟨r, he, hr, hj2⟩ => ⟨r, he, (by rw [hr, HZ.out]; rfl), hj2⟩))
  · exact fun kj wj hj => opOb_on 44 rfl rfl (opOb_ld rfl rfl (OpK.tmp rfl) (fun w' hb => ld_all hj.rowB hj.rowB.lt Tryd.underlying42 rfl (by kernel_rfl) w' hb))
  · exact fun kj wj hj => opOb_on 44 rfl rfl (opOb_fn1 ent_rroot rfl rfl (OpK.tmp rfl) (fun w' hb => (hj.rrootB hl2 HPRs.out hb).mono fun e w2 ⟨r, he, hr, hb2⟩ => ⟨r, he, (by rw [hr, HZ.out]; rfl), hb2⟩))
  · exact fun kj wj hj => opOb_on 44 rfl rfl (TreeSt.opOb_neR true rfl rfl (OpK.tmp rfl) (OpK.tmp rfl) (by simp))
  · exact fun kj wj hj => opOb_pickF rfl rfl rfl (OpK.tmp rfl)
  · intro wn hj
    simp only [fin, SF.is, forall_eq]
    simp only [Act.put, List.setIfInBounds_toArray, List.set_cons_succ, List.set_cons_zero]
    obtain ⟨u, v1, h1, h2, _, h4, h5, _⟩ := hj
    have HTw := Lib.hid h1.swap
    have HBn := Lib.hid (HBw9.out.trans h2)
    have HUn : Hid (u.H ≤ 1099511627776) := Lib.hid (by rw [HC6.out] at h4; omega)
    have HVn : Hid (v1.H ≤ 1099511627776) := Lib.hid (by rw [h5 (Nat.le_refl _)]; have := HH6.out; omega)
    clear h1 h2 h4 h5
    go_wp2_with fail
    go_loopw [14] (fun i wr => ∃ (k : Nat) (v : TV) (n : Nat) (A : Option Addr) (c : Nat) (x : Nat → Nat) (u : TV) (m : Nat) (D : Option Addr) (d : Nat) (y : Nat → Nat), i = .int .i64 (k : Int) ∧ k ≤ 40 ∧ Two wr w.heap.size l b10 T v n A c x b13 U u m D d y ∧ Below w.heap.size w wr ∧ v.H ≤ (k + 1) * 1099511627776 ∧ u.H ≤ (k + 1) * 1099511627776) (fun i _ => 40 - (intOf i).toNat)
    case atStart => exact ⟨0, v1, n, A, c, x, u, n, A, c, x, rfl, Nat.zero_le _, HTw.out, HBn.out, by have := HVn.out; omega, by have := HUn.out; omega⟩
    case round =>
      obtain ⟨k, v, n, A, c, x, u, m, D, d, y, rfl, hk40, ht, hb, hHv, hHu⟩ := hrel
      have HTr := Lib.hid ht
      have HBr := Lib.hid hb
      have HHv := Lib.hid hHv
      have HHu := Lib.hid hHu
      have HK := Lib.hid hk40
      clear ht hb hHv hHu HTwo HTw HBn HUn HVn HZ HPs HPTs HPRs HBw9 HU60
      obtain ⟨wo, rfl⟩ : ∃ wo : World, wo = wr := ⟨_, rfl⟩
      by_cases hlt : k < 40
      · go_upto_if 58 with fail
        go_cut [14] from 51 to 104 (fun ti wx => ti = .int .i64 (k : Int) ∧ ∃ v2 n2 A2 c2 x2, Two wx w.heap.size l b10 T v2 n2 A2 c2 x2 b13 U u m D d y ∧ Below w.heap.size w wx ∧ v2.H ≤ v.H + 171798691840)
        case first =>
          by_cases hk2 : k < m2
          · obtain ⟨G, hsl, hrd⟩ := cut_one (c := q2) hk2 HQ2.out (HA2.out.below HBr.out)
            have HSl := Lib.hid hsl
            have HRd := Lib.hid hrd
            clear hsl hrd
            go_wp2_with (first
              | (refine wpList_as rfl 63 rfl (.int .i64 ((k + 1 : Nat) : Int)) ?_ ?_; (· exact ex_bin rfl rfl rfl rfl (fun w => TreeRoot.add1I k (k + 1) rfl (by omega) w) _))
              | (refine wpList_as rfl 64 rfl (.slice G 1 (q2 - k)) ?_ ?_; (· exact ex_slice rfl rfl rfl rfl (fun w => HSl.out w) _))
              | (go_at_call 17; refine (run_any _ w.heap.size b10 T v l n A c x HTr.out.a HpB.out hl2 (by have := HHv.out; have := HK.out; omega) G 1 (q2 - k) _ _ _ HRd.out (fun _ => HF2.out _) (HP.out.below HBr.out) HPB.out (HPT.out.below HBr.out HTB.out) HTB.out).mono ?_; rintro r w6 ⟨v2, n2, A2, c2, x2, rfl, hr, hH⟩; have HR6 := Lib.hid (HTr.out.left hr); have HH6 := Lib.hid hH; have HB6 := Lib.hid (HBr.out.trans (hr.base HTr.out.a.tm HpB.out)); clear hr hH))
            go_meet
            case rel => exact ⟨rfl, v2, n2, A2, c2, x2, HR6.out, HB6.out, by have := HH6.out; omega⟩
          · have hk2' : m2 ≤ k := by omega
            go_wp2_with fail
            go_meet
            case rel => exact ⟨rfl, v, n, A, c, x, HTr.out, HBr.out, by omega⟩
        case rest =>
          obtain ⟨rfl, v2, n2, A2, c2, x2, h1, h2, h3⟩ := hcut
          have HTw1 := Lib.hid h1
          have HB10 := Lib.hid h2
          have HHv2 : Hid (v2.H ≤ (k + 1) * 1099511627776 + 171798691840) := Lib.hid (by have := HHv.out; omega)
          clear h1 h2 h3 HTr HBr HHv
          obtain ⟨w10, hw10⟩ : ∃ w10 : World, w10 = wc := ⟨_, rfl⟩
          subst hw10
          go_upto_if 69 with fail
          go_cut [14] from 51 to 104 (fun ti wx => ti = .int .i64 (k : Int) ∧ ∃ u2 m2' D2 d2 y2, Two wx w.heap.size l b10 T v2 n2 A2 c2 x2 b13 U u2 m2' D2 d2 y2 ∧ Below w.heap.size w wx ∧ u2.H ≤ u.H + 171798691840)
          case first =>
            by_cases hk2 : k < m3
            · obtain ⟨G, hsl, hrd⟩ := cut_one (c := q3) hk2 HQ3.out (HA3.out.below HB10.out)
              have HSl := Lib.hid hsl
              have HRd := Lib.hid hrd
              clear hsl hrd
              go_wp2_with (first
                | (refine wpList_as rfl 74 rfl (.int .i64 ((k + 1 : Nat) : Int)) ?_ ?_; (· exact ex_bin rfl rfl rfl rfl (fun w => TreeRoot.add1I k (k + 1) rfl (by omega) w) _))
                | (refine wpList_as rfl 75 rfl (.slice G 1 (q3 - k)) ?_ ?_; (· exact ex_slice rfl rfl rfl rfl (fun w => HSl.out w) _))
                | (go_at_call 17; refine (run_any _ w.heap.size b13 U u l m D d y HTw1.out.b HqB.out hl2 (by have := HHu.out; have := HK.out; omega) G 1 (q3 - k) _ _ _ HRd.out (fun _ => HF3.out _) (HP.out.below HB10.out) HPB.out (HPT.out.below HB10.out HTB.out) HTB.out).mono ?_; rintro r w6 ⟨u2, m9, D2, d2, y2, rfl, hr, hH⟩; have HR6 := Lib.hid (HTw1.out.swap.left hr).swap; have HH6 := Lib.hid hH; have HB6 := Lib.hid (HB10.out.trans (hr.base HTw1.out.b.tm HqB.out)); clear hr hH))
              go_meet
              case rel => exact ⟨rfl, u2, m9, D2, d2, y2, HR6.out, HB6.out, by have := HH6.out; omega⟩
            · have hk2' : m3 ≤ k := by omega
              go_wp2_with fail
              go_meet
              case rel => exact ⟨rfl, u, m, D, d, y, HTw1.out, HB10.out, by omega⟩
          case rest =>
            obtain ⟨rfl, u2, m9, D2, d2, y2, h1, h2, h3⟩ := hcut
            have HTw2 := Lib.hid h1
            have HB11 := Lib.hid h2
            have HHu2 : Hid (u2.H ≤ (k + 1) * 1099511627776 + 171798691840) := Lib.hid (by have := HHu.out; omega)
            clear h1 h2 h3 HTw1 HB10 HHu
            obtain ⟨w11, hw11⟩ : ∃ w11 : World, w11 = wc := ⟨_, rfl⟩
            subst hw11
            obtain ⟨Z1, hZ1⟩ : ∃ Z, treeN (dep l) n2 x2 = Z := ⟨_, rfl⟩
            have HZ1 := Lib.hid hZ1
            obtain ⟨Z2, hZ2⟩ : ∃ Z, treeN (dep l) m9 y2 = Z := ⟨_, rfl⟩
            have HZ2 := Lib.hid hZ2
            have HV60 : Hid (v2.H ≤ 576460752303423488) := Lib.hid (by have := HHv2.out; have := HK.out; omega)
            have HU60 : Hid (u2.H ≤ 576460752303423488) := Lib.hid (by have := HHu2.out; have := HK.out; omega)
            have HPs := Lib.hid (HP.out.below HB11.out)
            have HPTs := Lib.hid (HPT.out.below HB11.out HTB.out)
            have HPRs : Hid (∀ wz, Below w.heap.size w11 wz → RefPkg wz) := Lib.hid (fun wz hb => HPR.out.below (HB11.out.trans hb))
            clear hZ1 hZ2
            go_upto_region 19 with fail
            refine wp_region_stage (l := [_, _, _, _, _, _, _, _, _, _, _, _, _, _, _, _, _, _, _, _, _, _, _, _, _, _, _, _]) (N := 2) (TwoJ w11 w.heap.size l b10 T v2 n2 A2 c2 x2 b13 U u2 m9 D2 d2 y2) [SF.is (tpV T), SF.is (rootV Z1), SF.is (.agg (arr 2 (rfF l A2 n2 c2))), SF.is (rootV Z1), SF.is (.bool false), SF.is (.bool false), SF.is (tpV U), SF.is (rootV Z2), SF.is (.agg (arr 2 (rfF l D2 m9 d2))), SF.is (rootV Z2), SF.is (.bool false), SF.is (.bool false), SF.is (.bool false), SF.is (tpV T), SF.is (.int .i64 ((n2 : Nat) : Int)), SF.is (.pointer (some ⟨b10, 1, none⟩)), SF.is (.slice (A2) (n2) (c2)), SF.is (.int .i64 ((n2 : Nat) : Int)), SF.is (.bool false), SF.is (.bool false), SF.is (.bool false), SF.is (tpV U), SF.is (.int .i64 ((m9 : Nat) : Int)), SF.is (.pointer (some ⟨b13, 1, none⟩)), SF.is (.slice (D2) (m9) (d2)), SF.is (.int .i64 ((m9 : Nat) : Int)), SF.is (.bool false), SF.is (.bool false)] [none, some 0, none, none, none, none, none, some 1, none, none, none, none, none, none, none, none, none, none, none, none, none, none, none, none, none, none, none, none] (by kernel_rfl) (by kernel_rfl) (by kernel_rfl) rfl rfl (fun k w1 w2 hj hb => hj.below hb) (pure_is (Fs := [tpV T, rootV Z1, .agg (arr 2 (rfF l A2 n2 c2)), rootV Z1, .bool false, .bool false, tpV U, rootV Z2, .agg (arr 2 (rfF l D2 m9 d2)), rootV Z2, .bool false, .bool false, .bool false, tpV T, .int .i64 ((n2 : Nat) : Int), .pointer (some ⟨b10, 1, none⟩), .slice (A2) (n2) (c2), .int .i64 ((n2 : Nat) : Int), .bool false, .bool false, .bool false, tpV U, .int .i64 ((m9 : Nat) : Int), .pointer (some ⟨b13, 1, none⟩), .slice (D2) (m9) (d2), .int .i64 ((m9 : Nat) : Int), .bool false, .bool false])) (TwoJ.start HTw2.out) ⟨?_, ?_, ?_, ?_, ?_, ?_, ?_, ?_, ?_, ?_, ?_, ?_, ?_, ?_, ?_, ?_, ?_, ?_, ?_, ?_, ?_, ?_, ?_, ?_, ?_, ?_, ?_, ?_, trivial⟩ ?_
            · exact fun kj wj hj => (opOb_move _ rfl (.inl rfl) rfl)
            · exact opJ_fn1 TreeLaw.ent_root rfl rfl (OpK.tmp rfl) (fun wj hj => (hj.rootA HpB.out HV60.out HPs.out HPB.out HPTs.out HTB.out).mono fun e w2 ⟨r, he, hr, hj2⟩ => ⟨r, he, (by rw [hr, HZ1.out]; rfl), hj2⟩)
            · exact fun kj wj hj => opOb_ld rfl rfl (OpK.tmp rfl) (fun w' hb => ld_all hj.rowA hj.rowA.lt Tryd.underlying42 rfl (by kernel_rfl) w' hb)
            · exact fun kj wj hj => opOb_fn1 ent_rroot rfl rfl (OpK.tmp rfl) (fun w' hb => (hj.rrootA hl2 HPRs.out hb).mono fun e w2 ⟨r, he, hr, hb2⟩ => ⟨r, he, (by rw [hr, HZ1.out]; rfl), hb2⟩)
            · exact fun kj wj hj => TreeSt.opOb_neR true rfl rfl (OpK.tmp rfl) (OpK.tmp rfl) (by simp)
            · exact fun kj wj hj => (opOb_move _ rfl (.inl rfl) rfl)
            · exact fun kj wj hj => opOb_on 82 rfl rfl ((opOb_move _ rfl (.inl rfl) rfl))
            · exact opJ_on 82 rfl rfl (opJ_fn1 TreeLaw.ent_root rfl rfl (OpK.tmp rfl) (fun wj hj => (hj.rootB HqB.out HU60.out HPs.out HPB.out HPTs.out HTB.out).mono fun e w2 ⟨r, he, hr, hj2⟩ => ⟨r, he, (by rw [hr, HZ2.out]; rfl), hj2⟩))
            · exact fun kj wj hj => opOb_on 82 rfl rfl (opOb_ld rfl rfl (OpK.tmp rfl) (fun w' hb => ld_all hj.rowB hj.rowB.lt Tryd.underlying42 rfl (by kernel_rfl) w' hb))
            · exact fun kj wj hj => opOb_on 82 rfl rfl (opOb_fn1 ent_rroot rfl rfl (OpK.tmp rfl) (fun w' hb => (hj.rrootB hl2 HPRs.out hb).mono fun e w2 ⟨r, he, hr, hb2⟩ => ⟨r, he, (by rw [hr, HZ2.out]; rfl), hb2⟩))
            · exact fun kj wj hj => opOb_on 82 rfl rfl (TreeSt.opOb_neR true rfl rfl (OpK.tmp rfl) (OpK.tmp rfl) (by simp))
            · exact fun kj wj hj => opOb_pickF rfl rfl rfl (OpK.tmp rfl)
            · exact fun kj wj hj => (opOb_move _ rfl (.inl rfl) rfl)
            · exact fun kj wj hj => opOb_on 89 rfl rfl ((opOb_move _ rfl (.inl rfl) rfl))
            · exact fun kj wj hj => opOb_on 89 rfl rfl (opOb_fn1 TreeLaw.ent_len rfl rfl (OpK.tmp rfl) (fun w' hb => (hj.lenA hb).mono fun e w2 ⟨r, he, hr, hb2⟩ => ⟨r, he, hr, hb2⟩))
            · exact fun kj wj hj => opOb_on 89 rfl rfl (opOb_fld rfl rfl (OpK.tmp rfl) (fun w => by simp [go_sem]))
            · exact fun kj wj hj => opOb_on 89 rfl rfl (opOb_ld rfl rfl (OpK.tmp rfl) (fun w' hb => PickDraw.run_ldSl w' _ _ _ _ ((row_below hj.rowA hb hj.rowA.lt).cell (show 1 < 2 by omega)) Tryd.underlying22))
            · exact fun kj wj hj => opOb_on 89 rfl rfl (opOb_len Tryd.underlying22 rfl rfl (OpK.tmp rfl))
            · exact fun kj wj hj => opOb_on 89 rfl rfl (opOb_neSame .i64 _ rfl rfl (OpK.tmp rfl) (OpK.tmp rfl))
            · exact fun kj wj hj => opOb_pickF rfl rfl rfl (OpK.tmp rfl)
            · exact fun kj wj hj => (opOb_move _ rfl (.inl rfl) rfl)
            · exact fun kj wj hj => opOb_on 97 rfl rfl ((opOb_move _ rfl (.inl rfl) rfl))
            · exact fun kj wj hj => opOb_on 97 rfl rfl (opOb_fn1 TreeLaw.ent_len rfl rfl (OpK.tmp rfl) (fun w' hb => (hj.lenB hb).mono fun e w2 ⟨r, he, hr, hb2⟩ => ⟨r, he, hr, hb2⟩))
            · exact fun kj wj hj => opOb_on 97 rfl rfl (opOb_fld rfl rfl (OpK.tmp rfl) (fun w => by simp [go_sem]))
            · exact fun kj wj hj => opOb_on 97 rfl rfl (opOb_ld rfl rfl (OpK.tmp rfl) (fun w' hb => PickDraw.run_ldSl w' _ _ _ _ ((row_below hj.rowB hb hj.rowB.lt).cell (show 1 < 2 by omega)) Tryd.underlying22))
            · exact fun kj wj hj => opOb_on 97 rfl rfl (opOb_len Tryd.underlying22 rfl rfl (OpK.tmp rfl))
            · exact fun kj wj hj => opOb_on 97 rfl rfl (opOb_neSame .i64 _ rfl rfl (OpK.tmp rfl) (OpK.tmp rfl))
            · exact fun kj wj hj => opOb_pickF rfl rfl rfl (OpK.tmp rfl)
            · intro wn hj
              simp only [fin, SF.is, forall_eq]
              simp only [Act.put, List.setIfInBounds_toArray, List.set_cons_succ, List.set_cons_zero]
              obtain ⟨v3, u3, h1, h2, _, h4, _, h6⟩ := hj
              have HTw3 := Lib.hid h1
              have HB12 := Lib.hid (HB11.out.trans h2)
              have HHv3 := Lib.hid h4
              have HHu3 := Lib.hid h6
              clear h1 h2 h4 h6
              go_wp2_with fail
              go_roundw
              case rel => exact ⟨k + 1, v3, n2, A2, c2, x2, u3, m9, D2, d2, y2, by go_num, by omega, HTw3.out, HB12.out, by have := HHv3.out; have := HHv2.out; omega, by have := HHu3.out; have := HHu2.out; omega⟩
              case measure => simp [intOf]; omega
      · have hke : 40 ≤ k := by omega
        go_wp2_with fail
        go_ret
        exact ⟨rfl, HBr.out⟩
open TreeLaw TreeAwake TreeWork in
set_option maxHeartbeats 4000000 in
theorem copies_out (w : World) (L : Int) (h : L < 1 ∨ 1073741824 < L) (s1 s2 s3 : Value) (hp : ShaPkg w) (hpt : TzPkg w) :
    Calls Tryd.prog 5 #[.int .i64 L, s1, s2, s3] w fun e w' => e = .returned (.bool true) ∧ Below w.heap.size w w' := by
  have HP := Lib.hid hp
  have HPT := Lib.hid hpt
  have HLim := Lib.hid (TreeWork.lim_out h)
  have HLo := Lib.hid h
  clear hp hpt h
  go_enter Tryd.func5, Tryd.ntmps5
  go_wp2_with (first
    | (go_at_call 8; refine (awake06_any _ HP.out HPT.out).mono ?_; rintro r w1 ⟨rfl, hb⟩; have HB1 := Lib.hid hb; clear hb)
    | (go_at_call 9; refine (tnew_out L HLo.out _).mono ?_; rintro r w2 ⟨rfl, hw2⟩; rw [hw2]; clear hw2 w2)
    | (go_at_call 16; refine (rnew_look L _).mono ?_; rintro r w3 ⟨rfl, hb⟩; rw [HLim.out]; have HB3 := Lib.hid (HB1.out.trans (hb.mono HB1.out.size)); clear hb)
    | (refine wpList_allocL rfl 42 10 rfl rfl (HS.nil _) (arr 2 (rfI 0)) TreeRef6B.zero_rf 2 (rfI 0) (size_arr _ _) (fun i hi => arr_at _ _ i hi) ?_; intro b10 w4 hb10 hc10 hs; have HSa4 := Lib.hid hs; clear hs)
    | (refine wpList_storeH rfl 42 (.tmp 10) (.tmp 22) rfl HSa4.out 0 rfl (rfI L) rfl rfl (by kernel_rfl) (fun i _ => by unfold rfI; split <;> rfl) ?_; intro w5 hs; have HB5 := Lib.hid (HB3.out.trans ((hs.out (by simp; omega)).mono HB3.out.size)); clear hs))
  go_ret
  exact ⟨rfl, HB5.out⟩
theorem treeCopies_law (w : World) (L : Int) (_hL : -9223372036854775808 ≤ L ∧ L ≤ 9223372036854775807) (F1 : Option Addr) (m1 q1 : Nat) (kd1 ix1 : Nat → Int) (lf1 : Nat → Nat) (hA1 : Rd w w.heap.size F1 (m1 * 34) (opF kd1 ix1 lf1)) (_hk1 : ∀ i, -9223372036854775808 ≤ kd1 i ∧ kd1 i ≤ 9223372036854775807) (_hi1 : ∀ i, -9223372036854775808 ≤ ix1 i ∧ ix1 i ≤ 9223372036854775807) (hf1 : ∀ i, lf1 i < 256) (_hm1 : m1 * 48 ≤ 140737488351232) (_hc1 : m1 ≤ q1) (F2 : Option Addr) (m2 q2 : Nat) (kd2 ix2 : Nat → Int) (lf2 : Nat → Nat) (hA2 : Rd w w.heap.size F2 (m2 * 34) (opF kd2 ix2 lf2)) (_hk2 : ∀ i, -9223372036854775808 ≤ kd2 i ∧ kd2 i ≤ 9223372036854775807) (_hi2 : ∀ i, -9223372036854775808 ≤ ix2 i ∧ ix2 i ≤ 9223372036854775807) (hf2 : ∀ i, lf2 i < 256) (_hm2 : m2 * 48 ≤ 140737488351232) (_hc2 : m2 ≤ q2) (F3 : Option Addr) (m3 q3 : Nat) (kd3 ix3 : Nat → Int) (lf3 : Nat → Nat) (hA3 : Rd w w.heap.size F3 (m3 * 34) (opF kd3 ix3 lf3)) (_hk3 : ∀ i, -9223372036854775808 ≤ kd3 i ∧ kd3 i ≤ 9223372036854775807) (_hi3 : ∀ i, -9223372036854775808 ≤ ix3 i ∧ ix3 i ≤ 9223372036854775807) (hf3 : ∀ i, lf3 i < 256) (_hm3 : m3 * 48 ≤ 140737488351232) (_hc3 : m3 ≤ q3) (hp : ShaPkg w) (hpr : RefPkg w) (hpt : TzPkg w) :
    Calls Tryd.prog 5 #[.int .i64 L, .slice F1 m1 q1, .slice F2 m2 q2, .slice F3 m3 q3] w fun e w' => e = .returned (.bool true) ∧ Below w.heap.size w w' := by
  by_cases h : 1 ≤ L ∧ L ≤ 1073741824
  · obtain ⟨l, rfl⟩ : ∃ l : Nat, L = (l : Int) := ⟨L.toNat, by omega⟩
    exact copies_in w l (by omega) (by omega) F1 m1 q1 kd1 ix1 lf1 hA1 hf1 F2 m2 q2 kd2 ix2 lf2 hA2 hf2 _hc2 F3 m3 q3 kd3 ix3 lf3 hA3 hf3 _hc3 hp hpr hpt
  · exact copies_out w L (by omega) _ _ _ hp hpt
end Go.Proofs.YtlcpflaofggmeaaDoor
