/- A part of what the proofs stand on: MerkleBranch, MerkleBranch0, TreeTop, MerkleBranchRef, MerkleBranchErr, MerkleHoldsLaw, MerkleBranches0. -/
import Derived.Test.YtjmbgdldnnmipaaDoorGMer14
import Derived.Test.YtjmbgdldnnmipaaDoorGMer15
import Derived.Test.YtjmbgdldnnmipaaDoorGMer13
import Derived.Test.YtjmbgdldnnmipaaDoorGMer16
import Derived.Test.YtjmbgdldnnmipaaDoorGMer11
/- merkle.Branch, by the program. -/
namespace Go.Proofs.YtjmbgdldnnmipaaDoor
set_option maxRecDepth 40000
open Go.RowKit
namespace MerkleBranch
theorem shrI (i k : Nat) (hk : k < 63) (w : World) : (binOp .shr 3 (.int .i64 (i : Int)) (.int .i64 (k : Int))).run Tryd.prog w = .ok (.int .i64 ((i / 2 ^ k : Nat) : Int)) w := by
  simp [go_sem]
  try omega
theorem shlI (d : Nat) (hd : d < 62) (w : World) : (binOp .shl 3 (.int .i64 1) (.int .i64 (d : Int))).run Tryd.prog w = .ok (.int .i64 ((2 ^ d : Nat) : Int)) w := by
  have h1 : 2 ^ d ≤ 2 ^ 62 := Nat.pow_le_pow_right (by omega) (by omega)
  have h2 : ((2 ^ d : Nat) : Int) ≤ 4611686018427387904 := by
    have : (2 : Nat) ^ 62 = 4611686018427387904 := by decide
    omega
  have h0 : (0 : Int) ≤ ((2 ^ d : Nat) : Int) := Int.natCast_nonneg _
  have e : ((2 ^ d : Nat) : Int) = (2 : Int) ^ d := by simp
  rw [e] at h2 h0
  simp [go_sem, IntKind.wrap, IntKind.bits, IntKind.signed]
  generalize (2 : Int) ^ d = y at h2 h0
  rw [Int.emod_eq_of_lt h0 (by omega), if_neg (by omega)]
theorem i64_xor1 (m : Nat) (h : m < 4611686018427387904) : bits .xor .i64 (m : Int) 1 = ((m ^^^ 1 : Nat) : Int) := by
  have h1 : (BitVec.ofInt 64 (m : Int)).toNat = m := by
    rw [BitVec.ofInt_natCast, BitVec.toNat_ofNat]; exact Nat.mod_eq_of_lt (by omega)
  show IntKind.i64.wrap ((BitVec.ofInt 64 (m : Int) ^^^ BitVec.ofInt 64 (1 : Int)).toNat : Int) = _
  rw [BitVec.toNat_xor, h1, show (BitVec.ofInt 64 (1 : Int)).toNat = 1 by rfl]
  have h2 : m ^^^ 1 ≤ m + 1 := by rw [xor_one]; split <;> omega
  rw [IntKind.wrap_i64]
  omega
theorem xorI (m : Nat) (h : m < 4611686018427387904) (w : World) : (binOp .xor 3 (.int .i64 (m : Int)) (.int .i64 1)).run Tryd.prog w = .ok (.int .i64 ((m ^^^ 1 : Nat) : Int)) w := by
  have := i64_xor1 m h
  simp [go_sem, this]
/-- The branch, of which d roots are found. -/
def bpart (n : Nat) (x : Nat → Nat) (i d : Nat) : Nat → Nat := fun j => if j < d * 32 then brN n x i j else 0
/-- A root is laid at place d, whatever lay there. -/
theorem b_step {n i d N : Nat} {x r : Nat → Nat} {f : Nat → Value} (hr : ∀ q, q < 32 → r q = brN n x i (d * 32 + q)) (hf : ∀ q, q < N → ¬ (d * 32 ≤ q ∧ q < d * 32 + 32) → f q = u8v (bpart n x i d) q) : ∀ q, q < N → (if d * 32 ≤ q ∧ q < d * 32 + 32 then u8v r (q - d * 32) else f q) = u8v (bpart n x i (d + 1)) q := fun q hq => by
  by_cases h : d * 32 ≤ q ∧ q < d * 32 + 32
  · rw [if_pos h]
    have e : r (q - d * 32) = bpart n x i (d + 1) q := by
      rw [hr _ (by omega), show d * 32 + (q - d * 32) = q by omega]
      exact (if_pos (by omega)).symm
    exact congrArg (fun k : Nat => Value.int .u8 (k : Int)) e
  · rw [if_neg h, hf q hq h]
    refine congrArg (fun k : Nat => Value.int .u8 (k : Int)) ?_
    unfold bpart
    by_cases h1 : q < d * 32
    · rw [if_pos h1, if_pos (by omega)]
    · rw [if_neg h1, if_neg (fun h2 => h ⟨Nat.le_of_not_lt h1, by rw [← Nat.succ_mul]; exact h2⟩)]
end MerkleBranch
theorem apart2 {n bo bz : Nat} {t t' : TypeId} {N N' : Nat} {F F' : Nat → Value} {ad : Addr} (h : ad.block ≠ bo ∧ ad.block ≠ bz) : 0 < n → ∀ ad', some ad = some ad' → ∀ r ∈ ([⟨bo, t, N, F⟩, ⟨bz, t', N', F'⟩] : List RowSpec), r.b ≠ ad'.block := fun _ ad' e r hr => by
  injection e with e
  subst e
  rcases List.mem_cons.1 hr with rfl | hr
  · exact fun e => h.1 e.symm
  · rcases List.mem_cons.1 hr with rfl | hr
    · exact fun e => h.2 e.symm
    · cases hr
theorem behindHS {w0 w1 w : World} {rows : List RowSpec} (hb : Below w0.heap.size w0 w1) (h : HS w1 w rows) : HS w0 w rows :=
  ⟨h.os.trans hb.os, h.tape.trans hb.tape, h.output.trans hb.output, Nat.le_trans hb.size h.size, fun k hk hr => (h.block k (Nat.lt_of_lt_of_le hk hb.size) hr).trans (hb.block k hk), h.has, h.apart⟩
open MerkleUp in
set_option maxHeartbeats 4000000 in
theorem up_nil (c : Nat) (A : Option Addr) (z : Nat → Nat) (w : World) : Calls Tryd.prog 40 #[.slice A 0 c, rootV z] w fun e w' => ∃ b, e = .returned (.slice (some ⟨b, 0, none⟩) 0 0) ∧ w.heap.size ≤ b ∧ Below w.heap.size w w' := by
  have HS0 := Lib.hid (HS.nil w)
  go_enter Tryd.func40, Tryd.ntmps40
  go_wp2_with (first
    | (refine wpList_boxL rfl 23 _ 3 rfl rfl HS0.out 32 (u8v z) rfl ?_; intro b3 wm hb3 hc3 hs; have HS3 := Lib.hid hs; clear hs)
    | (refine wpList_makeL rfl 24 (e := 23) (z := .agg (Array.replicate 32 (.int .u8 0))) (k := 32) (bytes := 32) Tryd.underlying24 (by kernel_rfl) (.tmp 22) (.tmp 22) rfl 0 rfl rfl (u8v fun _ => 0) (fun i hi => absurd hi (by omega)) (by omega) (by omega) HS3.out ?_; intro b w1 hb1 hc1 hs; have HS1 := Lib.hid hs; clear hs))
  go_loopw [26] (fun i wr => i = .int .i64 0 ∧ wr = w1) (fun _ _ => 0)
  case atStart => exact ⟨rfl, rfl⟩
  case round =>
    obtain ⟨rfl, rfl⟩ := hrel
    go_wp2_with fail
    go_ret
    exact ⟨b, rfl, hb1, HS1.out.out (by simp; omega)⟩
open MerkleBranch in
set_option maxHeartbeats 8000000 in
theorem branch_pos (n c : Nat) (A : Option Addr) (x : Nat → Nat) (l i : Nat) (w : World) (hb : Rd w w.heap.size A (n * 32) (u8v x)) (hx : ∀ i, x i < 256) (hnc : n ≤ c) (hl : l ≤ 1099511627776) (hn : n ≤ l) (hn1 : 1 ≤ n) (hi : i < 2 ^ dep l) (hp : ShaPkg w) :
    Calls Tryd.prog 27 #[.slice A n c, .int .i64 (l : Int), .int .i64 (i : Int)] w fun e w' => ∃ b, e = .returned (.tuple #[.slice (some ⟨b, 0, none⟩) (dep l) (dep l), .int .i64 0]) ∧ w'.rowIs b 23 (dep l * 32) (u8v (brN n x i)) ∧ w.heap.size ≤ b ∧ Below w.heap.size w w' := by
  obtain ⟨D, hD⟩ : ∃ D, D = dep l := ⟨_, rfl⟩
  have hD40 : D ≤ 40 := by rw [hD]; exact dep_le (k := 40) (by omega)
  have HDp := Lib.hid (depth_look l hl)
  rw [← hD] at HDp hi ⊢
  obtain ⟨N, hN⟩ : ∃ N, N = 2 ^ D := ⟨_, rfl⟩
  rw [← hN] at hi
  have HN := Lib.hid hN
  have hN2 : N ≤ 1099511627776 := by rw [hN]; exact Nat.pow_le_pow_right (n := 2) (by omega) hD40
  have HP := Lib.hid hp
  have HS0 := Lib.hid (HS.nil w)
  obtain ⟨P, hPd⟩ : ∃ P, P = padN (n * 32) x := ⟨_, rfl⟩
  have HPl := Lib.hid (show ∀ i, P i < 256 by rw [hPd]; exact padN_lt hx)
  have HUp := Lib.hid (fun d => up_lev d n x (levN d P) (by rw [hPd]; exact fun _ _ => rfl))
  rw [← hPd] at HUp
  have HX2 := Lib.hid (hb.congr (f' := u8v P) (fun i hi => by rw [hPd]; simp only [u8v, padN]; rw [if_pos hi]))
  have HBx := Lib.hid (fun d q (hq : q < 32) => (brN_at n x i d q hq))
  rw [← hPd] at HBx
  have HZx := Lib.hid (fun d k (h : n ≤ k * 2 ^ d) q (hq : q < 32) => lev_zero d k n x h q hq)
  rw [← hPd] at HZx
  have t1 : decide ((l : Int) < 0) = false := decide_eq_false (by omega)
  have t2 : decide ((1099511627776 : Int) < (l : Int)) = false := decide_eq_false (by omega)
  have t3 : decide ((i : Int) < 0) = false := decide_eq_false (by omega)
  have t4 : decide ((N : Int) ≤ (i : Int)) = false := decide_eq_false (by omega)
  clear hb hx hp hD hN hPd
  go_enter Tryd.func27, Tryd.ntmps27
  go_wp2_with (first
    | (go_at_call 38; refine (HDp.out _).mono ?_; rintro e w5 ⟨rfl, hw⟩; rw [hw]; clear hw w5)
    | (refine wpList_asG rfl rfl rfl 27 rfl (.int .i64 (N : Int)) ?_ ?_; (· rw [HN.out]; exact ex_bin rfl rfl rfl rfl (fun w => shlI D (by omega) w) _))
    | (go_at_call 39; refine (zeros_look D hD40 _ HP.out).mono ?_; rintro e w6 ⟨bz, rfl, hbz, hrz, hb6⟩; have HS6 := Lib.hid ((HS0.out.below hb6).add hrz hbz (fun r hr => by cases hr)); clear hrz hb6)
    | (refine wpList_makeL rfl 24 (e := 23) (z := .agg (Array.replicate 32 (.int .u8 0))) (k := 32) (bytes := 32) Tryd.underlying24 (by kernel_rfl) (.tmp 37) (.tmp 37) rfl D rfl rfl (u8v (bpart n x i 0)) (fun j hj => (made_u8 32 _ (by omega) j hj).trans (congrArg some (by simp [u8v, bpart]))) (by omega) (by omega) HS6.out ?_; intro bo w7 hbo hco hs; have HS7a := Lib.hid hs; clear hs))
  have hbb : bz < bo := Nat.lt_of_lt_of_le (HS6.out.lt 0 rfl) hco
  go_loopw [0, 40] (fun ch ix wr => ∃ (d : Nat) (A' : Option Addr) (c' : Nat), ch = .slice A' (cnt d n) c' ∧ ix = .int .i64 (d : Int) ∧ d ≤ D ∧ cnt d n ≤ c' ∧ Rd wr wr.heap.size A' (cnt d n * 32) (u8v (levN d P)) ∧ HS w wr [⟨bo, 23, D * 32, u8v (bpart n x i d)⟩, ⟨bz, 23, (D + 1) * 32, u8v zrL⟩] ∧ (∀ ad, A' = some ad → ad.block ≠ bo ∧ ad.block ≠ bz)) (fun _ ix _ => D - (intOf ix).toNat)
  case atStart =>
    refine ⟨0, A, c, rfl, rfl, by omega, hnc, (HX2.out.below (HS7a.out.out (by simp; omega))).more HS7a.out.size, HS7a.out, fun ad e => ?_⟩
    obtain ⟨ad', h1, h2, _⟩ := HX2.out (by omega)
    rw [h1] at e
    injection e with e
    rw [← e]
    omega
  case round =>
    clear HS7a HS6 HS0 HX2 HDp
    obtain ⟨d, A', c', rfl, rfl, hd, hcc, hrd, hs, hap⟩ := hrel
    have HR := Lib.hid hrd
    have HSq := Lib.hid hs
    have HWq := Lib.hid (hs.out (by simp; omega))
    have hcp := cnt_pos d n (by omega)
    have hcl := cnt_le d n
    have hge := cnt_ge d n
    clear hrd hs
    by_cases hdD : d < D
    · have HUd := Lib.hid (HUp.out d)
      obtain ⟨m, hm⟩ : ∃ m, m = cnt d n := ⟨_, rfl⟩
      have hm2 : cnt (d + 1) n = (m + 1) / 2 := by rw [hm]; rfl
      rw [hm2] at HUd
      rw [← hm] at HUd HR hcp hcl hcc hge ⊢
      obtain ⟨kx, hkx⟩ : ∃ kx, kx = i / 2 ^ d ^^^ 1 := ⟨_, rfl⟩
      have HKx := Lib.hid hkx
      have hid : i / 2 ^ d ≤ i := Nat.div_le_self _ _
      have HBr := Lib.hid (fun q (hq : q < 32) => show levN d P (kx * 32 + q) = brN n x i (d * 32 + q) by rw [HBx.out d q hq, hkx])
      have HZr := Lib.hid (fun (hk : m ≤ kx) q (hq : q < 32) => show zrN d q = brN n x i (d * 32 + q) by
        rw [HBx.out d q hq, ← hkx]
        exact (HZx.out d kx (Nat.le_trans hge (Nat.mul_le_mul_right _ hk)) q hq).symm)
      have hSr : HS wr wr [⟨bo, 23, D * 32, u8v (bpart n x i d)⟩, ⟨bz, 23, (D + 1) * 32, u8v zrL⟩] := (((HS.nil wr).take (HSq.out.row 1 rfl) (fun r hr => by cases hr)).take (HSq.out.row 0 rfl) (fun r hr => by simp at hr; rw [hr]; show bz ≠ bo; omega))
      have HSr := Lib.hid hSr
      clear hSr
      have hbow := (HSq.out.lt 0 rfl)
      obtain ⟨ad, hA, hadw, _⟩ := HR.out (by omega)
      subst hA
      have hado := hap ad rfl
      clear hm hkx hap hge
      by_cases hk : kx < m
      · go_wp2_with (first
            | (refine wpList_as rfl 47 rfl (.pointer (some ⟨bz, d * 32, none⟩)) ?_ ?_; (· exact ex_idx rfl rfl rfl (fun w => (run_idxZ (z := 32) w Tryd.underlying24 (by kernel_rfl) ⟨bz, 0, none⟩ (by omega)).trans (by rw [add_lit0])) _))
            | (refine wpList_load_part rfl 23 (.tmp 47) rfl bz (d * 32) 32 (u8v (zrN d)) rfl _ (fun i hi => (HSr.out.cell 1 (d * 32 + i) rfl (show d * 32 + i < (D + 1) * 32 by omega)).trans (congrArg some (zr_at hi))) Tryd.underlying23 rfl (by kernel_rfl) _ rfl ?_)
            | (refine wpList_as rfl 49 rfl (.pointer (some ⟨bo, d * 32, none⟩)) ?_ ?_; (· exact ex_idx rfl rfl rfl (fun w => (run_idxZ (z := 32) w Tryd.underlying24 (by kernel_rfl) ⟨bo, 0, none⟩ (by omega)).trans (by rw [add_lit0])) _))
            | (refine wpList_storeP rfl 23 (.tmp 49) (.tmp 48) rfl HSr.out 0 rfl (d * 32) 32 (u8v (zrN d)) rfl rfl (by kernel_rfl) (by omega) (fun _ _ => rfl) (fun q => if d * 32 ≤ q ∧ q < d * 32 + 32 then u8v (zrN d) (q - d * 32) else u8v (bpart n x i d) q) (fun _ _ => rfl) ?_; intro w13 hs; have HS13 := Lib.hid hs; clear hs)
            | (refine wpList_as rfl 52 rfl (.int .i64 ((i / 2 ^ d : Nat) : Int)) ?_ ?_; (· exact ex_bin rfl rfl rfl rfl (fun w => shrI i d (by omega) w) _))
            | (refine wpList_as rfl 53 rfl (.int .i64 (kx : Int)) ?_ ?_; (· rw [HKx.out]; exact ex_bin rfl rfl rfl rfl (fun w => xorI (i / 2 ^ d) (by omega) w) _))
            | (refine wpList_as rfl 62 rfl (.pointer (some (ad.add (kx * 32)))) ?_ ?_; (· exact ex_idx rfl rfl rfl (fun w => run_idxZ (z := 32) w Tryd.underlying24 (by kernel_rfl) ad (by omega)) _))
            | (refine wpList_load_rd rfl 23 _ rfl 32 _ Tryd.underlying23 rfl (by kernel_rfl) (ad.add (kx * 32)) rfl (u8v (fun q => levN d P (kx * 32 + q))) (fun q hq => by rw [add_add]; exact ((HR.out.hs HS13.out (Nat.le_refl _) (apart2 hado)).cell_ (show kx * 32 + q < m * 32 by omega))) ?_)
            | (refine wpList_as rfl 64 rfl (.pointer (some ⟨bo, d * 32, none⟩)) ?_ ?_; (· exact ex_idx rfl rfl rfl (fun w => (run_idxZ (z := 32) w Tryd.underlying24 (by kernel_rfl) ⟨bo, 0, none⟩ (by omega)).trans (by rw [add_lit0])) _))
            | (refine wpList_storeP rfl 23 (.tmp 64) (.tmp 63) rfl HS13.out 0 rfl (d * 32) 32 (u8v (fun q => levN d P (kx * 32 + q))) rfl rfl (by kernel_rfl) (by omega) (fun _ _ => rfl) (u8v (bpart n x i (d + 1))) (b_step HBr.out (fun q _ h => if_neg h)) ?_; intro w14 hs; have HS14 := Lib.hid hs; clear hs)
            | (refine wpList_load_part rfl 23 (.tmp 68) rfl bz (d * 32) 32 (u8v (zrN d)) rfl _ (fun i hi => (HS14.out.cell 1 (d * 32 + i) rfl (show d * 32 + i < (D + 1) * 32 by omega)).trans (congrArg some (zr_at hi))) Tryd.underlying23 rfl (by kernel_rfl) _ rfl ?_)
            | (refine wpList_as rfl 68 rfl (.pointer (some ⟨bz, d * 32, none⟩)) ?_ ?_; (· exact ex_idx rfl rfl rfl (fun w => (run_idxZ (z := 32) w Tryd.underlying24 (by kernel_rfl) ⟨bz, 0, none⟩ (by omega)).trans (by rw [add_lit0])) _))
            | (go_at_call 40; refine (up_look m c' (some ad) (levN d P) (zrN d) _ ((HR.out.hs HS14.out (Nat.le_refl _) (apart2 hado)).more HS14.out.size) (levN_lt HPl.out d) (zrN_lt d) hcc hcp (by omega) (HP.out.below ((behindHS HWq.out HS14.out).out (by simp; omega)))).mono ?_; rintro e w7 ⟨b7, rfl, hb7, hr7, hbl7⟩; have HR7 := Lib.hid (hr7.congr (fun i hi => congrArg (fun k : Nat => Value.int .u8 (k : Int)) (HUd.out i hi))); have HS7 := Lib.hid ((behindHS HWq.out HS14.out).below hbl7); clear hr7 hbl7))
        go_roundw
        case rel => exact ⟨d + 1, some ⟨b7, 0, none⟩, (m + 1) / 2, congrArg (fun k => Value.slice (some ⟨b7, 0, none⟩) k ((m + 1) / 2)) hm2.symm, by go_num, by omega, by rw [hm2]; exact Nat.le_refl _, by rw [hm2]; exact Rd.of_row HR7.out (Nat.le_refl _) HR7.out.lt, HS7.out, fun ad e => by injection e with e; rw [← e]; have := HS14.out.size; have hl := (HS14.out.lt 0 rfl); have : w14.heap.size ≤ b7 := hb7; show b7 ≠ bo ∧ b7 ≠ bz; have : bo < w14.heap.size := hl; omega⟩
        case measure => simp [intOf]; omega
      · go_wp2_with (first
            | (refine wpList_as rfl 47 rfl (.pointer (some ⟨bz, d * 32, none⟩)) ?_ ?_; (· exact ex_idx rfl rfl rfl (fun w => (run_idxZ (z := 32) w Tryd.underlying24 (by kernel_rfl) ⟨bz, 0, none⟩ (by omega)).trans (by rw [add_lit0])) _))
            | (refine wpList_load_part rfl 23 (.tmp 47) rfl bz (d * 32) 32 (u8v (zrN d)) rfl _ (fun i hi => (HSr.out.cell 1 (d * 32 + i) rfl (show d * 32 + i < (D + 1) * 32 by omega)).trans (congrArg some (zr_at hi))) Tryd.underlying23 rfl (by kernel_rfl) _ rfl ?_)
            | (refine wpList_as rfl 49 rfl (.pointer (some ⟨bo, d * 32, none⟩)) ?_ ?_; (· exact ex_idx rfl rfl rfl (fun w => (run_idxZ (z := 32) w Tryd.underlying24 (by kernel_rfl) ⟨bo, 0, none⟩ (by omega)).trans (by rw [add_lit0])) _))
            | (refine wpList_storeP rfl 23 (.tmp 49) (.tmp 48) rfl HSr.out 0 rfl (d * 32) 32 (u8v (zrN d)) rfl rfl (by kernel_rfl) (by omega) (fun _ _ => rfl) (u8v (bpart n x i (d + 1))) (b_step (HZr.out (by omega)) (fun _ _ _ => rfl)) ?_; intro w14 hs; have HS14 := Lib.hid hs; clear hs)
            | (refine wpList_as rfl 52 rfl (.int .i64 ((i / 2 ^ d : Nat) : Int)) ?_ ?_; (· exact ex_bin rfl rfl rfl rfl (fun w => shrI i d (by omega) w) _))
            | (refine wpList_as rfl 53 rfl (.int .i64 (kx : Int)) ?_ ?_; (· rw [HKx.out]; exact ex_bin rfl rfl rfl rfl (fun w => xorI (i / 2 ^ d) (by omega) w) _))
            | (refine wpList_load_part rfl 23 (.tmp 68) rfl bz (d * 32) 32 (u8v (zrN d)) rfl _ (fun i hi => (HS14.out.cell 1 (d * 32 + i) rfl (show d * 32 + i < (D + 1) * 32 by omega)).trans (congrArg some (zr_at hi))) Tryd.underlying23 rfl (by kernel_rfl) _ rfl ?_)
            | (refine wpList_as rfl 68 rfl (.pointer (some ⟨bz, d * 32, none⟩)) ?_ ?_; (· exact ex_idx rfl rfl rfl (fun w => (run_idxZ (z := 32) w Tryd.underlying24 (by kernel_rfl) ⟨bz, 0, none⟩ (by omega)).trans (by rw [add_lit0])) _))
            | (go_at_call 40; refine (up_look m c' (some ad) (levN d P) (zrN d) _ ((HR.out.hs HS14.out (Nat.le_refl _) (apart2 hado)).more HS14.out.size) (levN_lt HPl.out d) (zrN_lt d) hcc hcp (by omega) (HP.out.below ((behindHS HWq.out HS14.out).out (by simp; omega)))).mono ?_; rintro e w7 ⟨b7, rfl, hb7, hr7, hbl7⟩; have HR7 := Lib.hid (hr7.congr (fun i hi => congrArg (fun k : Nat => Value.int .u8 (k : Int)) (HUd.out i hi))); have HS7 := Lib.hid ((behindHS HWq.out HS14.out).below hbl7); clear hr7 hbl7))
        go_roundw
        case rel => exact ⟨d + 1, some ⟨b7, 0, none⟩, (m + 1) / 2, congrArg (fun k => Value.slice (some ⟨b7, 0, none⟩) k ((m + 1) / 2)) hm2.symm, by go_num, by omega, by rw [hm2]; exact Nat.le_refl _, by rw [hm2]; exact Rd.of_row HR7.out (Nat.le_refl _) HR7.out.lt, HS7.out, fun ad e => by injection e with e; rw [← e]; have := HS14.out.size; have hl := (HS14.out.lt 0 rfl); have : w14.heap.size ≤ b7 := hb7; show b7 ≠ bo ∧ b7 ≠ bz; have : bo < w14.heap.size := hl; omega⟩
        case measure => simp [intOf]; omega
    · obtain rfl : d = D := by omega
      go_wp2_with fail
      go_ret2
      exact ⟨bo, rfl, (HSq.out.row 0 rfl).congr (fun j hj => congrArg (fun k : Nat => Value.int .u8 (k : Int)) (if_pos hj)), by omega, HWq.out⟩
/-- What Branch says where there is none. -/
abbrev noBranch (k : Nat) : Ending := .returned (.tuple #[.slice none 0 0, .int .i64 (k : Int)])
set_option maxHeartbeats 4000000 in
theorem branch_arg (n c : Nat) (A : Option Addr) (l i : Int) (w : World) (hl : l < 0 ∨ 1099511627776 < l) :
    Calls Tryd.prog 27 #[.slice A n c, .int .i64 l, .int .i64 i] w fun e w' => e = noBranch 1 ∧ w' = w := by
  rcases hl with hl | hl
  all_goals
    go_enter Tryd.func27, Tryd.ntmps27
    go_wp2_with fail
    go_ret2
    exact ⟨rfl, rfl⟩
open MerkleBranch in
set_option maxHeartbeats 4000000 in
theorem branch_place (n c : Nat) (A : Option Addr) (l : Nat) (i : Int) (w : World) (hl : l ≤ 1099511627776) (hi : i < 0 ∨ ((2 ^ dep l : Nat) : Int) ≤ i) :
    Calls Tryd.prog 27 #[.slice A n c, .int .i64 (l : Int), .int .i64 i] w fun e w' => e = noBranch 1 ∧ w' = w := by
  obtain ⟨D, hD⟩ : ∃ D, D = dep l := ⟨_, rfl⟩
  have hD40 : D ≤ 40 := by rw [hD]; exact dep_le (k := 40) (by omega)
  have HDp := Lib.hid (depth_look l hl)
  rw [← hD] at HDp hi
  obtain ⟨N, hN⟩ : ∃ N, N = 2 ^ D := ⟨_, rfl⟩
  rw [← hN] at hi
  have HN := Lib.hid hN
  have t1 : decide ((l : Int) < 0) = false := decide_eq_false (by omega)
  have t2 : decide ((1099511627776 : Int) < (l : Int)) = false := decide_eq_false (by omega)
  clear hD hN
  by_cases h0 : i < 0
  · have t3 : decide (i < 0) = true := decide_eq_true h0
    go_enter Tryd.func27, Tryd.ntmps27
    go_wp2_with (go_at_call 38; refine (HDp.out _).mono ?_; rintro e w5 ⟨rfl, hw⟩; rw [hw]; clear hw w5)
    go_ret2
    exact ⟨rfl, rfl⟩
  · have t3 : decide (i < 0) = false := decide_eq_false h0
    have t4 : decide ((N : Int) ≤ i) = true := decide_eq_true (by omega)
    go_enter Tryd.func27, Tryd.ntmps27
    go_wp2_with (first
      | (go_at_call 38; refine (HDp.out _).mono ?_; rintro e w5 ⟨rfl, hw⟩; rw [hw]; clear hw w5)
      | (refine wpList_asG rfl rfl rfl 27 rfl (.int .i64 (N : Int)) ?_ ?_; (· rw [HN.out]; exact ex_bin rfl rfl rfl rfl (fun w => shlI D (by omega) w) _)))
    go_ret2
    exact ⟨rfl, rfl⟩
open MerkleBranch in
set_option maxHeartbeats 4000000 in
theorem branch_long (n c : Nat) (A : Option Addr) (l i : Nat) (w : World) (hl : l ≤ 1099511627776) (hi : i < 2 ^ dep l) (hn : l < n) :
    Calls Tryd.prog 27 #[.slice A n c, .int .i64 (l : Int), .int .i64 (i : Int)] w fun e w' => e = noBranch 6 ∧ w' = w := by
  obtain ⟨D, hD⟩ : ∃ D, D = dep l := ⟨_, rfl⟩
  have hD40 : D ≤ 40 := by rw [hD]; exact dep_le (k := 40) (by omega)
  have HDp := Lib.hid (depth_look l hl)
  rw [← hD] at HDp hi
  obtain ⟨N, hN⟩ : ∃ N, N = 2 ^ D := ⟨_, rfl⟩
  rw [← hN] at hi
  have HN := Lib.hid hN
  have t1 : decide ((l : Int) < 0) = false := decide_eq_false (by omega)
  have t2 : decide ((1099511627776 : Int) < (l : Int)) = false := decide_eq_false (by omega)
  have t3 : decide ((i : Int) < 0) = false := decide_eq_false (by omega)
  have t4 : decide ((N : Int) ≤ (i : Int)) = false := decide_eq_false (by omega)
  clear hD hN
  go_enter Tryd.func27, Tryd.ntmps27
  go_wp2_with (first
    | (go_at_call 38; refine (HDp.out _).mono ?_; rintro e w5 ⟨rfl, hw⟩; rw [hw]; clear hw w5)
    | (refine wpList_asG rfl rfl rfl 27 rfl (.int .i64 (N : Int)) ?_ ?_; (· rw [HN.out]; exact ex_bin rfl rfl rfl rfl (fun w => shlI D (by omega) w) _)))
  go_ret2
  exact ⟨rfl, rfl⟩
end Go.Proofs.YtjmbgdldnnmipaaDoor
/- merkle.Branch of no chunks at all. -/
namespace Go.Proofs.YtjmbgdldnnmipaaDoor
set_option maxRecDepth 40000
open Go.RowKit
open MerkleBranch in
set_option maxHeartbeats 8000000 in
theorem branch_nil (c : Nat) (A : Option Addr) (x : Nat → Nat) (l i : Nat) (w : World) (hl : l ≤ 1099511627776) (hi : i < 2 ^ dep l) (hp : ShaPkg w) :
    Calls Tryd.prog 27 #[.slice A 0 c, .int .i64 (l : Int), .int .i64 (i : Int)] w fun e w' => ∃ b, e = .returned (.tuple #[.slice (some ⟨b, 0, none⟩) (dep l) (dep l), .int .i64 0]) ∧ w'.rowIs b 23 (dep l * 32) (u8v (brN 0 x i)) ∧ w.heap.size ≤ b ∧ Below w.heap.size w w' := by
  obtain ⟨D, hD⟩ : ∃ D, D = dep l := ⟨_, rfl⟩
  have hD40 : D ≤ 40 := by rw [hD]; exact dep_le (k := 40) (by omega)
  have HDp := Lib.hid (depth_look l hl)
  rw [← hD] at HDp hi ⊢
  obtain ⟨N, hN⟩ : ∃ N, N = 2 ^ D := ⟨_, rfl⟩
  rw [← hN] at hi
  have HN := Lib.hid hN
  have hN2 : N ≤ 1099511627776 := by rw [hN]; exact Nat.pow_le_pow_right (n := 2) (by omega) hD40
  have HP := Lib.hid hp
  have HS0 := Lib.hid (HS.nil w)
  have HBx := Lib.hid (fun d q (hq : q < 32) => show zrN d q = brN 0 x i (d * 32 + q) by
    rw [brN_at 0 x i d q hq]
    exact (lev_zero d (i / 2 ^ d ^^^ 1) 0 x (Nat.zero_le _) q hq).symm)
  have t1 : decide ((l : Int) < 0) = false := decide_eq_false (by omega)
  have t2 : decide ((1099511627776 : Int) < (l : Int)) = false := decide_eq_false (by omega)
  have t3 : decide ((i : Int) < 0) = false := decide_eq_false (by omega)
  have t4 : decide ((N : Int) ≤ (i : Int)) = false := decide_eq_false (by omega)
  clear hp hD hN
  go_enter Tryd.func27, Tryd.ntmps27
  go_wp2_with (first
    | (go_at_call 38; refine (HDp.out _).mono ?_; rintro e w5 ⟨rfl, hw⟩; rw [hw]; clear hw w5)
    | (refine wpList_asG rfl rfl rfl 27 rfl (.int .i64 (N : Int)) ?_ ?_; (· rw [HN.out]; exact ex_bin rfl rfl rfl rfl (fun w => shlI D (by omega) w) _))
    | (go_at_call 39; refine (zeros_look D hD40 _ HP.out).mono ?_; rintro e w6 ⟨bz, rfl, hbz, hrz, hb6⟩; have HS6 := Lib.hid ((HS0.out.below hb6).add hrz hbz (fun r hr => by cases hr)); clear hrz hb6)
    | (refine wpList_makeL rfl 24 (e := 23) (z := .agg (Array.replicate 32 (.int .u8 0))) (k := 32) (bytes := 32) Tryd.underlying24 (by kernel_rfl) (.tmp 37) (.tmp 37) rfl D rfl rfl (u8v (bpart 0 x i 0)) (fun j hj => (made_u8 32 _ (by omega) j hj).trans (congrArg some (by simp [u8v, bpart]))) (by omega) (by omega) HS6.out ?_; intro bo w7 hbo hco hs; have HS7a := Lib.hid hs; clear hs))
  have hbb : bz < bo := Nat.lt_of_lt_of_le (HS6.out.lt 0 rfl) hco
  go_loopw [0, 40] (fun ch ix wr => ∃ (d : Nat) (A' : Option Addr) (c' : Nat), ch = .slice A' 0 c' ∧ ix = .int .i64 (d : Int) ∧ d ≤ D ∧ HS w wr [⟨bo, 23, D * 32, u8v (bpart 0 x i d)⟩, ⟨bz, 23, (D + 1) * 32, u8v zrL⟩]) (fun _ ix _ => D - (intOf ix).toNat)
  case atStart => exact ⟨0, A, c, rfl, rfl, by omega, HS7a.out⟩
  case round =>
    clear HS7a HS6 HS0 HDp
    obtain ⟨d, A', c', rfl, rfl, hd, hs⟩ := hrel
    have HSq := Lib.hid hs
    have HWq := Lib.hid (hs.out (by simp; omega))
    clear hs
    by_cases hdD : d < D
    · obtain ⟨kx, hkx⟩ : ∃ kx, kx = i / 2 ^ d ^^^ 1 := ⟨_, rfl⟩
      have HKx := Lib.hid hkx
      have hid : i / 2 ^ d ≤ i := Nat.div_le_self _ _
      clear hkx
      go_wp2_with (first
        | (refine wpList_as rfl 47 rfl (.pointer (some ⟨bz, d * 32, none⟩)) ?_ ?_; (· exact ex_idx rfl rfl rfl (fun w => (run_idxZ (z := 32) w Tryd.underlying24 (by kernel_rfl) ⟨bz, 0, none⟩ (by omega)).trans (by rw [add_lit0])) _))
        | (refine wpList_load_part rfl 23 (.tmp 47) rfl bz (d * 32) 32 (u8v (zrN d)) rfl _ (fun i hi => (HSq.out.cell 1 (d * 32 + i) rfl (show d * 32 + i < (D + 1) * 32 by omega)).trans (congrArg some (zr_at hi))) Tryd.underlying23 rfl (by kernel_rfl) _ rfl ?_)
        | (refine wpList_as rfl 49 rfl (.pointer (some ⟨bo, d * 32, none⟩)) ?_ ?_; (· exact ex_idx rfl rfl rfl (fun w => (run_idxZ (z := 32) w Tryd.underlying24 (by kernel_rfl) ⟨bo, 0, none⟩ (by omega)).trans (by rw [add_lit0])) _))
        | (refine wpList_storeP rfl 23 (.tmp 49) (.tmp 48) rfl HSq.out 0 rfl (d * 32) 32 (u8v (zrN d)) rfl rfl (by kernel_rfl) (by omega) (fun _ _ => rfl) (u8v (bpart 0 x i (d + 1))) (b_step (HBx.out d) (fun _ _ _ => rfl)) ?_; intro w14 hs; have HS14 := Lib.hid hs; clear hs)
        | (refine wpList_as rfl 52 rfl (.int .i64 ((i / 2 ^ d : Nat) : Int)) ?_ ?_; (· exact ex_bin rfl rfl rfl rfl (fun w => shrI i d (by omega) w) _))
        | (refine wpList_as rfl 53 rfl (.int .i64 (kx : Int)) ?_ ?_; (· rw [HKx.out]; exact ex_bin rfl rfl rfl rfl (fun w => xorI (i / 2 ^ d) (by omega) w) _))
        | (refine wpList_load_part rfl 23 (.tmp 68) rfl bz (d * 32) 32 (u8v (zrN d)) rfl _ (fun i hi => (HS14.out.cell 1 (d * 32 + i) rfl (show d * 32 + i < (D + 1) * 32 by omega)).trans (congrArg some (zr_at hi))) Tryd.underlying23 rfl (by kernel_rfl) _ rfl ?_)
        | (refine wpList_as rfl 68 rfl (.pointer (some ⟨bz, d * 32, none⟩)) ?_ ?_; (· exact ex_idx rfl rfl rfl (fun w => (run_idxZ (z := 32) w Tryd.underlying24 (by kernel_rfl) ⟨bz, 0, none⟩ (by omega)).trans (by rw [add_lit0])) _))
        | (go_at_call 40; refine (up_nil c' A' (zrN d) _).mono ?_; rintro e w7 ⟨b7, rfl, hb7, hbl7⟩; have HS7 := Lib.hid (HS14.out.below hbl7); clear hbl7))
      go_roundw
      case rel => exact ⟨d + 1, some ⟨b7, 0, none⟩, 0, rfl, by go_num, by omega, HS7.out⟩
      case measure => simp [intOf]; omega
    · obtain rfl : d = D := by omega
      go_wp2_with fail
      go_ret2
      exact ⟨bo, rfl, (HSq.out.row 0 rfl).congr (fun j hj => congrArg (fun k : Nat => Value.int .u8 (k : Int)) (if_pos hj)), by omega, HWq.out⟩
/-- m << d. -/
theorem shlM (m d : Nat) (hd : d < 62) (h : m * 2 ^ d ≤ 4611686018427387904) (w : World) : (binOp .shl 3 (.int .i64 (m : Int)) (.int .u64 (d : Int))).run Tryd.prog w = .ok (.int .i64 ((m * 2 ^ d : Nat) : Int)) w := by
  have h2 : ((m * 2 ^ d : Nat) : Int) ≤ 4611686018427387904 := by omega
  have h0 : (0 : Int) ≤ ((m * 2 ^ d : Nat) : Int) := Int.natCast_nonneg _
  have e : ((m * 2 ^ d : Nat) : Int) = (m : Int) * (2 : Int) ^ d := by simp
  rw [e] at h2 h0 ⊢
  simp [go_sem, IntKind.wrap, IntKind.bits, IntKind.signed]
  generalize (m : Int) * (2 : Int) ^ d = y at h2 h0
  rw [Int.emod_eq_of_lt h0 (by omega), if_neg (by omega)]
/-- merkle.Branch where there is one. -/
theorem branch_ok (n c : Nat) (A : Option Addr) (x : Nat → Nat) (l i : Nat) (w : World) (hb : Rd w w.heap.size A (n * 32) (u8v x)) (hx : ∀ i, x i < 256) (hnc : n ≤ c) (hl : l ≤ 1099511627776) (hn : n ≤ l) (hi : i < 2 ^ dep l) (hp : ShaPkg w) :
    Calls Tryd.prog 27 #[.slice A n c, .int .i64 (l : Int), .int .i64 (i : Int)] w fun e w' => ∃ b, e = .returned (.tuple #[.slice (some ⟨b, 0, none⟩) (dep l) (dep l), .int .i64 0]) ∧ w'.rowIs b 23 (dep l * 32) (u8v (brN n x i)) ∧ w.heap.size ≤ b ∧ Below w.heap.size w w' := by
  by_cases h : n = 0
  · subst h; exact branch_nil c A x l i w hl hi hp
  · exact branch_pos n c A x l i w hb hx hnc hl hn (by omega) hi hp
end Go.Proofs.YtjmbgdldnnmipaaDoor
/- Tree and Must of the reference, where the chunks aren't too many. -/
namespace Go.Proofs.YtjmbgdldnnmipaaDoor
set_option maxRecDepth 40000
open Go.RowKit
set_option maxHeartbeats 2000000 in
theorem treeTop_ok (n c l : Nat) (A : Option Addr) (x : Nat → Nat) (w : World) (hb : Rd w w.heap.size A (n * 32) (u8v x)) (hx : ∀ i, x i < 256) (hnc : n ≤ c) (hl : l ≤ 1099511627776) (hnl : n ≤ l) (hp : RefPkg w) :
    Calls Tryd.prog 22 #[.slice A n c, .int .i64 (l : Int)] w fun e w' => e = .returned (.tuple #[rootV (treeN (dep l) n x), .int .i64 0]) ∧ Below w.heap.size w w' := by
  have HP := Lib.hid hp
  have HX := Lib.hid hb
  have HXl := Lib.hid hx
  have HS0 := Lib.hid (HS.nil w)
  have hd40 : dep l ≤ 40 := dep_le (k := 40) (by omega)
  clear hb hx hp
  have tok1 := Tok.mk 1
  go_enter Tryd.func22, Tryd.ntmps22
  go_wp2_with (first
    | (refine wpList_allocL rfl 23 4 rfl rfl HS0.out (Array.replicate 32 (.int .u8 0)) (by kernel_rfl) 32 (u8v fun _ => 0) (by rfl) (zero_at 32 (.int .u8 0)) ?_; intro b6 w6 hb6 hc6 hs6; have HS6 := Lib.hid hs6; clear hs6)
    | (go_at_call 44; refine (depth_ref l hl _).mono ?_; rintro e w7 ⟨rfl, hw7⟩; subst hw7)
    | (go_at_call 45; refine (zeros_ref (dep l) hd40 _ (HP.out.below (HS6.out.out (by simp; omega)))).mono ?_; rintro e w8 ⟨Z, cz, rfl, hz, hb8⟩; have HZ := Lib.hid hz; have HS8 := Lib.hid (HS6.out.below hb8); clear hz hb8)
    | (go_at_call 43; refine (tree_ref (dep l) n c A x (dep l + 1) cz Z _ (by omega) hd40 hnc ((HX.out.below (HS8.out.out (by simp; omega))).more HS8.out.size) HXl.out HZ.out.rd (by omega) (HP.out.below (HS8.out.out (by simp; omega)))).mono ?_; rintro e w9 ⟨rfl, hb9⟩; have HS9 := Lib.hid (HS8.out.below hb9); clear hb9)
    | (refine wpList_storeH rfl 23 (.tmp 4) (.tmp 24) rfl HS9.out 0 rfl (u8v (treeN (dep l) n x)) rfl rfl (by kernel_rfl) (fun _ _ => rfl) ?_; intro wy hs; have HY := Lib.hid hs; clear hs))
  exact ret_rowTmp rfl (HY.out.row 0 rfl) _ _ rfl rfl Tryd.underlying23 rfl (by kernel_rfl) rfl ⟨rfl, HY.out.out (by simp; omega)⟩
end Go.Proofs.YtjmbgdldnnmipaaDoor
/- Branch, by the reference. (Printed by a program of mine.) -/
namespace Go.Proofs.YtjmbgdldnnmipaaDoor
set_option maxRecDepth 40000
open Go.RowKit
theorem cat_br {n i d : Nat} {x : Nat → Nat} : ∀ q, q < (d + 1) * 32 → catF (d * 32) (u8v (brN n x i)) (u8v fun q => brN n x i (d * 32 + q)) q = u8v (brN n x i) q := fun q _ => by
  simp only [catF, u8v]
  split
  · rfl
  · rw [show d * 32 + (q - d * 32) = q by omega]
theorem shr1 (i d : Nat) (_hi : i ≤ 4611686018427387904) (w : World) : (binOp .shr 3 (.int .i64 ((i / 2 ^ d : Nat) : Int)) (.int .u64 1)).run Tryd.prog w = .ok (.int .i64 ((i / 2 ^ (d + 1) : Nat) : Int)) w := by
  rw [Nat.pow_succ, ← Nat.div_div_eq_div_mul]
  generalize i / 2 ^ d = m
  simp [go_sem]
theorem xor1_le (m : Nat) : m ^^^ 1 ≤ m + 1 := by rw [xor_one]; split <;> omega
set_option maxHeartbeats 16000000 in
theorem branch_ref (n c : Nat) (A : Option Addr) (x : Nat → Nat) (l i : Nat) (w : World) (hb : Rd w w.heap.size A (n * 32) (u8v x)) (hx : ∀ i, x i < 256) (hnc : n ≤ c) (hl : l ≤ 1099511627776) (hn : n ≤ l) (hi : i < 2 ^ dep l) (hp : RefPkg w) :
    Calls Tryd.prog 28 #[.slice A n c, .int .i64 (l : Int), .int .i64 (i : Int)] w fun e w' => ∃ A' c', e = .returned (.tuple #[.slice A' (dep l) c', .int .i64 0]) ∧ OwnZ w' w.heap.size 23 32 A' (dep l) c' (u8v (brN n x i)) ∧ Below w.heap.size w w' := by
  obtain ⟨D, hD⟩ : ∃ D, D = dep l := ⟨_, rfl⟩
  have hD40 : D ≤ 40 := by rw [hD]; exact dep_le (k := 40) (by omega)
  have HDp := Lib.hid (depth_ref l hl)
  rw [← hD] at HDp hi ⊢
  obtain ⟨N, hN⟩ : ∃ N, N = 2 ^ D := ⟨_, rfl⟩
  rw [← hN] at hi
  have HN := Lib.hid hN
  have hN2 : N ≤ 1099511627776 := by rw [hN]; exact Nat.pow_le_pow_right (n := 2) (by omega) hD40
  have HP := Lib.hid hp
  have HX := Lib.hid hb
  have HXl := Lib.hid hx
  have t1 : decide ((l : Int) < 0) = false := decide_eq_false (by omega)
  have t2 : decide ((1099511627776 : Int) < (l : Int)) = false := decide_eq_false (by omega)
  have t3 : decide ((i : Int) < 0) = false := decide_eq_false (by omega)
  have t4 : decide ((N : Int) ≤ (i : Int)) = false := decide_eq_false (by omega)
  clear hb hx hp hD hN
  go_enter Tryd.func28, Tryd.ntmps28
  go_wp2_with (first
    | (go_at_call 44; refine (HDp.out _).mono ?_; rintro e w5 ⟨rfl, hw⟩; rw [hw]; clear hw w5)
    | (refine wpList_asG rfl rfl rfl 28 rfl (.int .u64 (D : Int)) ?_ ?_; (· exact ex_cnv rfl rfl (fun w => TreeRef.cvu D (by omega) w) _))
    | (refine wpList_asG rfl rfl rfl 29 rfl (.int .i64 (N : Int)) ?_ ?_; (· rw [HN.out]; exact ex_bin rfl rfl rfl rfl (fun w => TreeRef.shl1 D (by omega) w) _))
    | (go_at_call 45; refine (zeros_ref D hD40 _ HP.out).mono ?_; rintro e wz ⟨Z, cz, rfl, hz, hb6⟩; have HZ := Lib.hid hz; have HB6 := Lib.hid hb6; clear hz hb6))
  have hwz := HB6.out.size
  have HXz := Lib.hid ((HX.out.below HB6.out).more hwz)
  have HPz := Lib.hid (HP.out.below HB6.out)
  have HZz := Lib.hid HZ.out.rd
  clear HX HP HZ
  go_loopw [8, 10, 11] (fun o8 o10 o11 wr => ∃ (d : Nat) (A' : Option Addr) (c' : Nat), o8 = .slice A' d c' ∧ o10 = .int .i64 ((i / 2 ^ d : Nat) : Int) ∧ o11 = .int .i64 (d : Int) ∧ d ≤ D ∧ OwnZ wr wz.heap.size 23 32 A' d c' (u8v (brN n x i)) ∧ Below wz.heap.size wz wr) (fun _ _ ix _ => D - (intOf ix).toNat)
  case atStart => exact ⟨0, none, 0, rfl, by simp, rfl, by omega, OwnZ.nil _ _ _ _ _, Below.refl _ _⟩
  case round =>
    obtain ⟨d, A', c', rfl, rfl, rfl, hd, ho, hw⟩ := hrel
    have HO := Lib.hid ho
    have HW := Lib.hid hw
    have hsz := hw.size
    clear ho hw
    by_cases hdD : d < D
    · obtain ⟨kx, hkx⟩ : ∃ kx, kx = i / 2 ^ d ^^^ 1 := ⟨_, rfl⟩
      obtain ⟨pw, hpw⟩ : ∃ pw, pw = 2 ^ d := ⟨_, rfl⟩
      obtain ⟨fr, hfr⟩ : ∃ fr, fr = kx * pw := ⟨_, rfl⟩
      have hid : i / 2 ^ d ≤ i := Nat.div_le_self _ _
      have hpN : pw ≤ N := by rw [hpw, HN.out]; exact Nat.pow_le_pow_right (by omega) (by omega)
      have hk1 : kx ≤ i / 2 ^ d + 1 := by rw [hkx]; exact xor1_le _
      have hfb : fr ≤ i + pw := by
        rw [hfr]
        refine Nat.le_trans (Nat.mul_le_mul_right pw hk1) ?_
        rw [Nat.add_mul, Nat.one_mul, hpw]
        exact Nat.add_le_add_right (Nat.div_mul_le_self _ _) _
      have HKx := Lib.hid hkx
      have HPw := Lib.hid hpw
      have HFr := Lib.hid hfr
      have HXr := Lib.hid ((HXz.out.below HW.out).more hsz)
      have HPr := Lib.hid (HPz.out.below HW.out)
      have HZr := Lib.hid ((HZz.out.below HW.out).more hsz)
      clear hkx hpw hfr hk1
      by_cases h1 : fr + pw ≤ n
      · have s1 : decide ((n : Int) < (fr : Int)) = false := decide_eq_false (by omega)
        have s2 : decide ((n : Int) < (fr : Int) + (pw : Int)) = false := decide_eq_false (by omega)
        obtain ⟨A2, hct⟩ := cut_midZ (P := Tryd.prog) Tryd.underlying24 (z := 32) (by kernel_rfl) (by omega) A n c fr (fr + pw) _ _ (.inr rfl) (.inr rfl) (by omega) (by omega) hnc
        obtain ⟨m, hm⟩ : ∃ m, m = (fr + pw) - fr := ⟨_, rfl⟩
        obtain ⟨ck, hck⟩ : ∃ ck, ck = c - fr := ⟨_, rfl⟩
        rw [← hm, ← hck] at hct
        have HCt := Lib.hid hct
        have HT := Lib.hid (show rootV (treeN d m (fun q => x (fr * 32 + q))) = rootV (fun q => brN n x i (d * 32 + q)) from rootV_ext (fun q hq => by
          rw [hm, brN_at n x i d q hq, part_lev d (i / 2 ^ d ^^^ 1) n fr (fr + pw) x (by rw [← HKx.out, ← HPw.out, ← HFr.out]; omega) (by rw [← HKx.out, ← HPw.out, ← HFr.out]; omega) q hq]))
        have hm1 : m ≤ pw ∧ m ≤ ck := by omega
        have hm2 : m ≤ n := by omega
        clear hct hm hck
        go_wp2_with (first
          | (go_at_call 44; refine (HDp.out _).mono ?_; rintro e w9 ⟨rfl, hw⟩; rw [hw]; clear hw w9)
          | (refine wpList_as rfl 47 rfl (.int .i64 (kx : Int)) ?_ ?_; (· rw [HKx.out]; exact ex_bin rfl rfl rfl rfl (fun w => MerkleBranch.xorI (i / 2 ^ d) (by omega) w) _))
          | (refine wpList_as rfl 49 rfl (.int .u64 (d : Int)) ?_ ?_; (· exact ex_cnv rfl rfl (fun w => TreeRef.cvu d (by omega) w) _))
          | (refine wpList_as rfl 50 rfl (.int .i64 (fr : Int)) ?_ ?_; (· rw [HFr.out, HPw.out]; exact ex_bin rfl rfl rfl rfl (fun w => shlM kx d (by omega) (by rw [← HPw.out, ← HFr.out]; omega) w) _))
          | (refine wpList_as rfl 53 rfl (.int .u64 (d : Int)) ?_ ?_; (· exact ex_cnv rfl rfl (fun w => TreeRef.cvu d (by omega) w) _))
          | (refine wpList_as rfl 54 rfl (.int .i64 (pw : Int)) ?_ ?_; (· rw [HPw.out]; exact ex_bin rfl rfl rfl rfl (fun w => TreeRef.shl1 d (by omega) w) _))
          | (refine wpList_as rfl 72 rfl (.slice A2 m ck) ?_ ?_; (· exact ex_slice rfl rfl rfl rfl (fun w => HCt.out.1 w) _))
          | (go_at_call 43; refine (tree_ref d m ck A2 (fun q => x (fr * 32 + q)) (D + 1) cz Z _ (by omega) (by omega) (by omega) (HCt.out.2 _ _ _ (HXr.out.short (by omega))) (fun _ => HXl.out _) HZr.out (by omega) HPr.out).mono ?_; rintro e w7 ⟨rfl, hb⟩; rw [HT.out]; have HB7 := Lib.hid hb; clear hb)
          | (refine wpList_bs1 rfl Tryd.underlying24 (z := 32) (by kernel_rfl) (by omega) (by omega) (v0 := .agg (Array.replicate 32 (.int .u8 0))) (by kernel_rfl) _ rfl (u8v (fun q => brN n x i (d * 32 + q))) rfl (HS.nil w7) ?_; intro b76 w76 hb76 hc76 hs; have HS76 := Lib.hid hs; clear hs)
          | (at_builtin; refine wpList_appZ _ (.tmp 68) (.tmp 76) 24 wz.heap.size (e := 23) (z := .agg (Array.replicate 32 (.int .u8 0))) (k := 32) (bytes := 32) (by kernel_rfl) Tryd.underlying24 (by rfl) (by omega) rfl rfl (d + 1) (u8v (brN n x i)) rfl rfl ((HO.out.all HB7.out).all (HS76.out.out (by simp; omega))) (Rd.of_row (HS76.out.row 0 rfl) (Nat.le_refl _) (HS76.out.lt 0 rfl)) (fun _ _ => rfl) rfl cat_br ⟨by omega, by omega⟩ (by have := HS76.out.size; have := HB7.out.size; omega) ?_; intro A77 c77 w77 ho hg _; have HO77 := Lib.hid ho; have HB77 := Lib.hid (below_app ((HW.out.trans (HB7.out.mono hsz)).trans ((HS76.out.out (by simp; omega)).mono (by have := HB7.out.size; omega))) hg (by have := HS76.out.size; have := HB7.out.size; omega) (fun ad e => (HO.out.base_le ad e).1)); clear ho hg)
          | (refine wpList_as rfl 79 rfl (.int .i64 ((i / 2 ^ (d + 1) : Nat) : Int)) ?_ ?_; (· exact ex_bin rfl rfl rfl rfl (fun w => shr1 i d (by omega) w) _)))
        go_roundw
        case rel => exact ⟨d + 1, A77, c77, rfl, rfl, by go_num, by omega, HO77.out, HB77.out⟩
        case measure => simp [intOf]; omega
      · by_cases h2 : fr ≤ n
        · have s1 : decide ((n : Int) < (fr : Int)) = false := decide_eq_false (by omega)
          have s2 : decide ((n : Int) < (fr : Int) + (pw : Int)) = true := decide_eq_true (by omega)
          obtain ⟨A2, hct⟩ := cut_midZ (P := Tryd.prog) Tryd.underlying24 (z := 32) (by kernel_rfl) (by omega) A n c fr n _ _ (.inr rfl) (.inr rfl) (by omega) (by omega) hnc
          obtain ⟨m, hm⟩ : ∃ m, m = n - fr := ⟨_, rfl⟩
          obtain ⟨ck, hck⟩ : ∃ ck, ck = c - fr := ⟨_, rfl⟩
          rw [← hm, ← hck] at hct
          have HCt := Lib.hid hct
          have HT := Lib.hid (show rootV (treeN d m (fun q => x (fr * 32 + q))) = rootV (fun q => brN n x i (d * 32 + q)) from rootV_ext (fun q hq => by
            rw [hm, brN_at n x i d q hq, part_lev d (i / 2 ^ d ^^^ 1) n fr n x (by rw [← HKx.out, ← HPw.out, ← HFr.out]; omega) (by rw [← HKx.out, ← HPw.out, ← HFr.out]; omega) q hq]))
          have hm1 : m ≤ pw ∧ m ≤ ck := by omega
          have hm2 : m ≤ n := by omega
          clear hct hm hck
          go_wp2_with (first
            | (go_at_call 44; refine (HDp.out _).mono ?_; rintro e w9 ⟨rfl, hw⟩; rw [hw]; clear hw w9)
            | (refine wpList_as rfl 47 rfl (.int .i64 (kx : Int)) ?_ ?_; (· rw [HKx.out]; exact ex_bin rfl rfl rfl rfl (fun w => MerkleBranch.xorI (i / 2 ^ d) (by omega) w) _))
            | (refine wpList_as rfl 49 rfl (.int .u64 (d : Int)) ?_ ?_; (· exact ex_cnv rfl rfl (fun w => TreeRef.cvu d (by omega) w) _))
            | (refine wpList_as rfl 50 rfl (.int .i64 (fr : Int)) ?_ ?_; (· rw [HFr.out, HPw.out]; exact ex_bin rfl rfl rfl rfl (fun w => shlM kx d (by omega) (by rw [← HPw.out, ← HFr.out]; omega) w) _))
            | (refine wpList_as rfl 53 rfl (.int .u64 (d : Int)) ?_ ?_; (· exact ex_cnv rfl rfl (fun w => TreeRef.cvu d (by omega) w) _))
            | (refine wpList_as rfl 54 rfl (.int .i64 (pw : Int)) ?_ ?_; (· rw [HPw.out]; exact ex_bin rfl rfl rfl rfl (fun w => TreeRef.shl1 d (by omega) w) _))
            | (refine wpList_as rfl 72 rfl (.slice A2 m ck) ?_ ?_; (· exact ex_slice rfl rfl rfl rfl (fun w => HCt.out.1 w) _))
            | (go_at_call 43; refine (tree_ref d m ck A2 (fun q => x (fr * 32 + q)) (D + 1) cz Z _ (by omega) (by omega) (by omega) (HCt.out.2 _ _ _ (HXr.out.short (by omega))) (fun _ => HXl.out _) HZr.out (by omega) HPr.out).mono ?_; rintro e w7 ⟨rfl, hb⟩; rw [HT.out]; have HB7 := Lib.hid hb; clear hb)
            | (refine wpList_bs1 rfl Tryd.underlying24 (z := 32) (by kernel_rfl) (by omega) (by omega) (v0 := .agg (Array.replicate 32 (.int .u8 0))) (by kernel_rfl) _ rfl (u8v (fun q => brN n x i (d * 32 + q))) rfl (HS.nil w7) ?_; intro b76 w76 hb76 hc76 hs; have HS76 := Lib.hid hs; clear hs)
            | (at_builtin; refine wpList_appZ _ (.tmp 68) (.tmp 76) 24 wz.heap.size (e := 23) (z := .agg (Array.replicate 32 (.int .u8 0))) (k := 32) (bytes := 32) (by kernel_rfl) Tryd.underlying24 (by rfl) (by omega) rfl rfl (d + 1) (u8v (brN n x i)) rfl rfl ((HO.out.all HB7.out).all (HS76.out.out (by simp; omega))) (Rd.of_row (HS76.out.row 0 rfl) (Nat.le_refl _) (HS76.out.lt 0 rfl)) (fun _ _ => rfl) rfl cat_br ⟨by omega, by omega⟩ (by have := HS76.out.size; have := HB7.out.size; omega) ?_; intro A77 c77 w77 ho hg _; have HO77 := Lib.hid ho; have HB77 := Lib.hid (below_app ((HW.out.trans (HB7.out.mono hsz)).trans ((HS76.out.out (by simp; omega)).mono (by have := HB7.out.size; omega))) hg (by have := HS76.out.size; have := HB7.out.size; omega) (fun ad e => (HO.out.base_le ad e).1)); clear ho hg)
            | (refine wpList_as rfl 79 rfl (.int .i64 ((i / 2 ^ (d + 1) : Nat) : Int)) ?_ ?_; (· exact ex_bin rfl rfl rfl rfl (fun w => shr1 i d (by omega) w) _)))
          go_roundw
          case rel => exact ⟨d + 1, A77, c77, rfl, rfl, by go_num, by omega, HO77.out, HB77.out⟩
          case measure => simp [intOf]; omega
        · have s1 : decide ((n : Int) < (fr : Int)) = true := decide_eq_true (by omega)
          have s2 : decide ((n : Int) < (fr : Int) + (pw : Int)) = true := decide_eq_true (by omega)
          obtain ⟨A2, hct⟩ := cut_midZ (P := Tryd.prog) Tryd.underlying24 (z := 32) (by kernel_rfl) (by omega) A n c n n _ _ (.inr rfl) (.inr rfl) (by omega) (by omega) hnc
          obtain ⟨m, hm⟩ : ∃ m, m = n - n := ⟨_, rfl⟩
          obtain ⟨ck, hck⟩ : ∃ ck, ck = c - n := ⟨_, rfl⟩
          rw [← hm, ← hck] at hct
          have HCt := Lib.hid hct
          have HT := Lib.hid (show rootV (treeN d m (fun q => x (n * 32 + q))) = rootV (fun q => brN n x i (d * 32 + q)) from rootV_ext (fun q hq => by
            rw [hm, brN_at n x i d q hq, part_lev d (i / 2 ^ d ^^^ 1) n n n x (by rw [← HKx.out, ← HPw.out, ← HFr.out]; omega) (by rw [← HKx.out, ← HPw.out, ← HFr.out]; omega) q hq]))
          have hm1 : m ≤ pw ∧ m ≤ ck := by omega
          have hm2 : m ≤ n := by omega
          clear hct hm hck
          go_wp2_with (first
            | (go_at_call 44; refine (HDp.out _).mono ?_; rintro e w9 ⟨rfl, hw⟩; rw [hw]; clear hw w9)
            | (refine wpList_as rfl 47 rfl (.int .i64 (kx : Int)) ?_ ?_; (· rw [HKx.out]; exact ex_bin rfl rfl rfl rfl (fun w => MerkleBranch.xorI (i / 2 ^ d) (by omega) w) _))
            | (refine wpList_as rfl 49 rfl (.int .u64 (d : Int)) ?_ ?_; (· exact ex_cnv rfl rfl (fun w => TreeRef.cvu d (by omega) w) _))
            | (refine wpList_as rfl 50 rfl (.int .i64 (fr : Int)) ?_ ?_; (· rw [HFr.out, HPw.out]; exact ex_bin rfl rfl rfl rfl (fun w => shlM kx d (by omega) (by rw [← HPw.out, ← HFr.out]; omega) w) _))
            | (refine wpList_as rfl 53 rfl (.int .u64 (d : Int)) ?_ ?_; (· exact ex_cnv rfl rfl (fun w => TreeRef.cvu d (by omega) w) _))
            | (refine wpList_as rfl 54 rfl (.int .i64 (pw : Int)) ?_ ?_; (· rw [HPw.out]; exact ex_bin rfl rfl rfl rfl (fun w => TreeRef.shl1 d (by omega) w) _))
            | (refine wpList_as rfl 72 rfl (.slice A2 m ck) ?_ ?_; (· exact ex_slice rfl rfl rfl rfl (fun w => HCt.out.1 w) _))
            | (go_at_call 43; refine (tree_ref d m ck A2 (fun q => x (n * 32 + q)) (D + 1) cz Z _ (by omega) (by omega) (by omega) (HCt.out.2 _ _ _ (HXr.out.short (by omega))) (fun _ => HXl.out _) HZr.out (by omega) HPr.out).mono ?_; rintro e w7 ⟨rfl, hb⟩; rw [HT.out]; have HB7 := Lib.hid hb; clear hb)
            | (refine wpList_bs1 rfl Tryd.underlying24 (z := 32) (by kernel_rfl) (by omega) (by omega) (v0 := .agg (Array.replicate 32 (.int .u8 0))) (by kernel_rfl) _ rfl (u8v (fun q => brN n x i (d * 32 + q))) rfl (HS.nil w7) ?_; intro b76 w76 hb76 hc76 hs; have HS76 := Lib.hid hs; clear hs)
            | (at_builtin; refine wpList_appZ _ (.tmp 68) (.tmp 76) 24 wz.heap.size (e := 23) (z := .agg (Array.replicate 32 (.int .u8 0))) (k := 32) (bytes := 32) (by kernel_rfl) Tryd.underlying24 (by rfl) (by omega) rfl rfl (d + 1) (u8v (brN n x i)) rfl rfl ((HO.out.all HB7.out).all (HS76.out.out (by simp; omega))) (Rd.of_row (HS76.out.row 0 rfl) (Nat.le_refl _) (HS76.out.lt 0 rfl)) (fun _ _ => rfl) rfl cat_br ⟨by omega, by omega⟩ (by have := HS76.out.size; have := HB7.out.size; omega) ?_; intro A77 c77 w77 ho hg _; have HO77 := Lib.hid ho; have HB77 := Lib.hid (below_app ((HW.out.trans (HB7.out.mono hsz)).trans ((HS76.out.out (by simp; omega)).mono (by have := HB7.out.size; omega))) hg (by have := HS76.out.size; have := HB7.out.size; omega) (fun ad e => (HO.out.base_le ad e).1)); clear ho hg)
            | (refine wpList_as rfl 79 rfl (.int .i64 ((i / 2 ^ (d + 1) : Nat) : Int)) ?_ ?_; (· exact ex_bin rfl rfl rfl rfl (fun w => shr1 i d (by omega) w) _)))
          go_roundw
          case rel => exact ⟨d + 1, A77, c77, rfl, rfl, by go_num, by omega, HO77.out, HB77.out⟩
          case measure => simp [intOf]; omega
    · obtain rfl : d = D := by omega
      go_wp2_with (go_at_call 44; refine (HDp.out _).mono ?_; rintro e w9 ⟨rfl, hw⟩; rw [hw]; clear hw w9)
      go_ret2
      exact ⟨A', c', rfl, HO.out.mono hwz, HB6.out.trans (HW.out.mono hwz)⟩
end Go.Proofs.YtjmbgdldnnmipaaDoor
/- Branch, by the reference, where there is none. (Printed by a program of mine.) -/
namespace Go.Proofs.YtjmbgdldnnmipaaDoor
set_option maxRecDepth 40000
open Go.RowKit
set_option maxHeartbeats 4000000 in
theorem branchRef_arg (n c : Nat) (A : Option Addr) (l i : Int) (w : World) (hl : l < 0 ∨ 1099511627776 < l) :
    Calls Tryd.prog 28 #[.slice A n c, .int .i64 l, .int .i64 i] w fun e w' => e = noBranch 1 ∧ w' = w := by
  rcases hl with hl | hl
  all_goals
    go_enter Tryd.func28, Tryd.ntmps28
    go_wp2_with fail
    go_ret2
    exact ⟨rfl, rfl⟩
set_option maxHeartbeats 4000000 in
theorem branchRef_place (n c : Nat) (A : Option Addr) (l : Nat) (i : Int) (w : World) (hl : l ≤ 1099511627776) (hi : i < 0 ∨ ((2 ^ dep l : Nat) : Int) ≤ i) :
    Calls Tryd.prog 28 #[.slice A n c, .int .i64 (l : Int), .int .i64 i] w fun e w' => e = noBranch 1 ∧ w' = w := by
  obtain ⟨D, hD⟩ : ∃ D, D = dep l := ⟨_, rfl⟩
  have hD40 : D ≤ 40 := by rw [hD]; exact dep_le (k := 40) (by omega)
  have HDp := Lib.hid (depth_ref l hl)
  rw [← hD] at HDp hi
  obtain ⟨N, hN⟩ : ∃ N, N = 2 ^ D := ⟨_, rfl⟩
  rw [← hN] at hi
  have HN := Lib.hid hN
  have t1 : decide ((l : Int) < 0) = false := decide_eq_false (by omega)
  have t2 : decide ((1099511627776 : Int) < (l : Int)) = false := decide_eq_false (by omega)
  clear hD hN
  by_cases h0 : i < 0
  · have t3 : decide (i < 0) = true := decide_eq_true h0
    go_enter Tryd.func28, Tryd.ntmps28
    go_wp2_with fail
    go_ret2
    exact ⟨rfl, rfl⟩
  · have t3 : decide (i < 0) = false := decide_eq_false h0
    have t4 : decide ((N : Int) ≤ i) = true := decide_eq_true (by omega)
    go_enter Tryd.func28, Tryd.ntmps28
    go_wp2_with (first
      | (go_at_call 44; refine (HDp.out _).mono ?_; rintro e w5 ⟨rfl, hw⟩; rw [hw]; clear hw w5)
      | (refine wpList_asG rfl rfl rfl 28 rfl (.int .u64 (D : Int)) ?_ ?_; (· exact ex_cnv rfl rfl (fun w => TreeRef.cvu D (by omega) w) _))
      | (refine wpList_asG rfl rfl rfl 29 rfl (.int .i64 (N : Int)) ?_ ?_; (· rw [HN.out]; exact ex_bin rfl rfl rfl rfl (fun w => TreeRef.shl1 D (by omega) w) _)))
    go_ret2
    exact ⟨rfl, rfl⟩
set_option maxHeartbeats 4000000 in
theorem branchRef_long (n c : Nat) (A : Option Addr) (l i : Nat) (w : World) (hl : l ≤ 1099511627776) (hi : i < 2 ^ dep l) (hn : l < n) :
    Calls Tryd.prog 28 #[.slice A n c, .int .i64 (l : Int), .int .i64 (i : Int)] w fun e w' => e = noBranch 6 ∧ w' = w := by
  obtain ⟨D, hD⟩ : ∃ D, D = dep l := ⟨_, rfl⟩
  have hD40 : D ≤ 40 := by rw [hD]; exact dep_le (k := 40) (by omega)
  have HDp := Lib.hid (depth_ref l hl)
  rw [← hD] at HDp hi
  obtain ⟨N, hN⟩ : ∃ N, N = 2 ^ D := ⟨_, rfl⟩
  rw [← hN] at hi
  have HN := Lib.hid hN
  have t1 : decide ((l : Int) < 0) = false := decide_eq_false (by omega)
  have t2 : decide ((1099511627776 : Int) < (l : Int)) = false := decide_eq_false (by omega)
  clear hD hN
  have t3 : decide ((i : Int) < 0) = false := decide_eq_false (by omega)
  have t4 : decide ((N : Int) ≤ (i : Int)) = false := decide_eq_false (by omega)
  go_enter Tryd.func28, Tryd.ntmps28
  go_wp2_with (first
    | (go_at_call 44; refine (HDp.out _).mono ?_; rintro e w5 ⟨rfl, hw⟩; rw [hw]; clear hw w5)
    | (refine wpList_asG rfl rfl rfl 28 rfl (.int .u64 (D : Int)) ?_ ?_; (· exact ex_cnv rfl rfl (fun w => TreeRef.cvu D (by omega) w) _))
    | (refine wpList_asG rfl rfl rfl 29 rfl (.int .i64 (N : Int)) ?_ ?_; (· rw [HN.out]; exact ex_bin rfl rfl rfl rfl (fun w => TreeRef.shl1 D (by omega) w) _)))
  go_ret2
  exact ⟨rfl, rfl⟩
end Go.Proofs.YtjmbgdldnnmipaaDoor
/- The law MerkleHolds. (Printed by a program of mine.) -/
namespace Go.Proofs.YtjmbgdldnnmipaaDoor
set_option maxRecDepth 40000
open Go.RowKit
/-- Whether a branch holds. -/
def holdsB (n : Nat) (x y r : Nat → Nat) (p : Nat) : Bool := if n ≤ 64 then eqB (upN y x p n) r else false
theorem holds_any (n c : Nat) (A : Option Addr) (x y r : Nat → Nat) (p : Nat) (w : World) (hb : Rd w w.heap.size A (n * 32) (u8v x)) (hx : ∀ i, x i < 256) (hy : ∀ i, y i < 256) (hnc : n ≤ c) (hp : p < 18446744073709551616) (hpk : ShaPkg w) :
    Calls Tryd.prog 15 #[rootV y, .slice A n c, .int .u64 (p : Int), rootV r] w fun e w' => e = .returned (.bool (holdsB n x y r p)) ∧ Below w.heap.size w w' := by
  unfold holdsB
  by_cases h : n ≤ 64
  · rw [if_pos h]; exact holds_look n c A x y r p w hb hx hy hnc h hp hpk
  · rw [if_neg h]; exact holds_lookF n c A y r p w (by omega)
theorem holds_refA (n c : Nat) (A : Option Addr) (x y r : Nat → Nat) (p : Nat) (w : World) (hb : Rd w w.heap.size A (n * 32) (u8v x)) (hx : ∀ i, x i < 256) (hy : ∀ i, y i < 256) (hnc : n ≤ c) (hp : p < 18446744073709551616) (hpk : RefPkg w) :
    Calls Tryd.prog 16 #[rootV y, .slice A n c, .int .u64 (p : Int), rootV r] w fun e w' => e = .returned (.bool (holdsB n x y r p)) ∧ Below w.heap.size w w' := by
  unfold holdsB
  by_cases h : n ≤ 64
  · rw [if_pos h]; exact holds_ref n c A x y r p w hb hx hy hnc h hp hpk
  · rw [if_neg h]; exact holds_refF n c A y r p w (by omega)
theorem run_bs0_R (w : World) : (Instr.buildSlice 24 0 #[]).run Tryd.prog w = .ok (.slice (some ⟨w.heap.size, 0, none⟩) 0 0) (w.alloc (.cells #[] 23)) := by simp [go_sem]
namespace MerkleHoldsLaw
theorem ent_h1 (vs : Array Value) (w : World) : (callFunc 15 vs).run Tryd.prog w = .ok (.enter 15 vs) w := by kernel_rfl
theorem ent_h2 (vs : Array Value) (w : World) : (callFunc 16 vs).run Tryd.prog w = .ok (.enter 16 vs) w := by kernel_rfl
end MerkleHoldsLaw
open MerkleHoldsLaw in
set_option maxHeartbeats 4000000 in
theorem merkleHolds_law (w : World) (y : Nat → Nat) (hy : ∀ i, y i < 256) (A : Option Addr) (n c : Nat) (x : Nat → Nat) (hA : Rd w w.heap.size A (n * 32) (u8v x)) (hx : ∀ i, x i < 256) (hn : n * 32 ≤ 140737488351232) (hnc : n ≤ c) (p : Nat) (hpp : p < 18446744073709551616) (r : Nat → Nat) (_hr : ∀ i, r i < 256) (hp : ShaPkg w) (hpr : RefPkg w) :
    Calls Tryd.prog 3 #[rootV y, .slice A n c, .int .u64 (p : Int), rootV r] w fun e w' => e = .returned (.bool true) ∧ Below w.heap.size w w' := by
  have HX := Lib.hid hA
  have HXl := Lib.hid hx
  have HYl := Lib.hid hy
  have HP := Lib.hid hp
  have HPR := Lib.hid hpr
  have HS0 := Lib.hid (HS.nil w)
  clear hA hx hy hp hpr
  go_enter Tryd.func3, Tryd.ntmps3
  go_upto_region 3 with (first
    | (refine wpList_boxL rfl 23 _ 4 rfl rfl HS0.out 32 (u8v y) rfl ?_; intro b4 w4 hb4 hc4 hs; have HS4 := Lib.hid hs; clear hs)
    | (refine wpList_boxL rfl 23 _ 7 rfl rfl HS4.out 32 (u8v r) rfl ?_; intro b7 w7 hb7 hc7 hs; have HS7 := Lib.hid hs; clear hs)
    | (go_at_call 14; refine (awake05_any _ (HP.out.below (HS7.out.out (by simp; omega)))).mono ?_; rintro e wa ⟨rfl, hb⟩; have HA := Lib.hid (HS7.out.below hb); clear hb))
  have HW := Lib.hid (HA.out.out (by simp; omega))
  refine wp_region_facts (B := wa.heap.size) (w0 := wa) [SF.is (rootV y), SF.own0Z wa.heap.size 23 32, SF.is (.slice (A) (n) (c)), SF.ownZ wa.heap.size 23 32 n (u8v x), SF.is (.int .u64 ((p : Nat) : Int)), SF.is (rootV r), SF.is (.bool (holdsB n x y r p)), SF.is (rootV y), SF.is (.slice (A) (n) (c)), SF.is (.int .u64 ((p : Nat) : Int)), SF.is (rootV r), SF.is (.bool (holdsB n x y r p)), SF.is (.bool true), SF.is (.bool true)] (by kernel_rfl) (by kernel_rfl) rfl (Nat.le_refl _) (Below.refl _ _) ⟨?_, ?_, ?_, ?_, ?_, ?_, ?_, ?_, ?_, ?_, ?_, ?_, ?_, ?_, trivial⟩ ?_
  · exact opOb_ld rfl rfl (OpK.tmp rfl) (fun w' hb => ld_all (HA.out.row 1 rfl) (HA.out.row 1 rfl).lt Tryd.underlying23 rfl (by kernel_rfl) w' hb)
  · exact opOb_bs0Z 32 rfl rfl run_bs0_R _ (Nat.le_refl _)
  · exact (opOb_move _ rfl (.inl rfl) rfl)
  · exact opOb_app0Z (s := 12) (x := 13) wa.heap.size (z := .agg (Array.replicate 32 (.int .u8 0))) (k := 32) (bytes := 32) (by kernel_rfl) Tryd.underlying24 (by rfl) (by omega) rfl rfl rfl rfl (fun w' hb => (HX.out.below (HW.out.trans (hb.mono HW.out.size)))) (fun _ _ => rfl) ⟨by omega, by omega⟩ (Nat.le_refl _)
  · exact (opOb_move _ rfl (.inl rfl) rfl)
  · exact opOb_ld rfl rfl (OpK.tmp rfl) (fun w' hb => ld_all (HA.out.row 0 rfl) (HA.out.row 0 rfl).lt Tryd.underlying23 rfl (by kernel_rfl) w' hb)
  · exact opOb_fn4S ent_h1 rfl rfl (OpK.tmp rfl) rfl (OpK.tmp rfl) (OpK.tmp rfl) (fun w' v hb hv => by obtain ⟨A', c', rfl, ho⟩ := hv; exact (holds_any n c' A' x y r p w' ho.rd HXl.out HYl.out ho.cap hpp (HP.out.below (HW.out.trans (hb.mono HW.out.size)))).mono fun e w'' ⟨he, hb2⟩ => ⟨_, he, rfl, hb2⟩)
  · exact opOb_ld rfl rfl (OpK.tmp rfl) (fun w' hb => ld_all (HA.out.row 1 rfl) (HA.out.row 1 rfl).lt Tryd.underlying23 rfl (by kernel_rfl) w' hb)
  · exact (opOb_move _ rfl (.inl rfl) rfl)
  · exact (opOb_move _ rfl (.inl rfl) rfl)
  · exact opOb_ld rfl rfl (OpK.tmp rfl) (fun w' hb => ld_all (HA.out.row 0 rfl) (HA.out.row 0 rfl).lt Tryd.underlying23 rfl (by kernel_rfl) w' hb)
  · exact opOb_fn4 ent_h2 rfl rfl (OpK.tmp rfl) (OpK.tmp rfl) (OpK.tmp rfl) (OpK.tmp rfl) (fun w' hb => (holds_refA n c A x y r p w' ((HX.out.below (HW.out.trans (hb.mono HW.out.size))).more (Nat.le_trans HW.out.size hb.size)) HXl.out HYl.out hnc hpp (HPR.out.below (HW.out.trans (hb.mono HW.out.size)))).mono fun e w'' ⟨he, hb2⟩ => ⟨_, he, rfl, hb2⟩)
  · exact opOb_eqBool (holdsB n x y r p) Tryd.underlying4 rfl rfl (OpK.tmp rfl) (OpK.tmp rfl)
  · exact (opOb_move _ rfl (.inr rfl) rfl)
  · intro w' hb
    simp only [fin, SF.is, SF.own0Z, SF.ownZ, forall_eq]
    simp only [Act.put, List.setIfInBounds_toArray, List.set_cons_succ, List.set_cons_zero]
    rintro _ _ _ _
    have hend := HW.out.trans (hb.mono HW.out.size)
    go_wp2_with fail
    go_ret
    exact ⟨rfl, hend⟩
end Go.Proofs.YtjmbgdldnnmipaaDoor
/- The law MerkleBranches: what its ways share. (Printed by a program of mine.) -/
namespace Go.Proofs.YtjmbgdldnnmipaaDoor
set_option maxRecDepth 40000
open Go.RowKit
namespace MerkleBranchesLaw
theorem ent_h1 (vs : Array Value) (w : World) : (callFunc 15 vs).run Tryd.prog w = .ok (.enter 15 vs) w := by kernel_rfl
theorem ent_h2 (vs : Array Value) (w : World) : (callFunc 16 vs).run Tryd.prog w = .ok (.enter 16 vs) w := by kernel_rfl
theorem cvU (m : Nat) (hm : m < 9223372036854775808) (w : World) : (convert 3 25 (.int .i64 (m:Int))).run Tryd.prog w = .ok (.int .u64 (m:Int)) w := by
  simp [go_sem, IntKind.wrap, IntKind.bits, IntKind.signed]; omega
end MerkleBranchesLaw
end Go.Proofs.YtjmbgdldnnmipaaDoor
