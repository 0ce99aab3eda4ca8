/- Lemmas that the proof stands on. -/
import Derived.Test.YtomilckcgmhfcaaDoorGLit9
import Derived.Lib.SliceRun
import Derived.Shelf.Spec.BitsCarry
namespace Go.Proofs.YtomilckcgmhfcaaDoor
set_option maxRecDepth 40000
set_option maxHeartbeats 64000000
open Go.RowKit
theorem zjq (l : Nat) (h : 2 ≤ l) (hl : l ≤ 18446744073709551616) : Lib.bitLen (l - 1) = dep l := by
 have h1 := Lib.bitLenAux_bounds 64 (l - 1) (by omega) (by omega)
 have hb : 1 ≤ Lib.bitLen (l - 1) ∧ 2 ^ (Lib.bitLen (l - 1) - 1) ≤ l - 1 ∧ l - 1 < 2 ^ Lib.bitLen (l - 1) := h1
 obtain ⟨b, hbb⟩ : ∃ b, b = Lib.bitLen (l - 1) := ⟨_, rfl⟩
 rw [← hbb] at hb ⊢
 have h2 : dep l ≤ b := zd4 (by omega)
 rcases Nat.lt_or_ge (dep l) b with h3 | h3
 ·exfalso
  have h4 := zb5 l
  have h5 : 2 ^ dep l ≤ 2 ^ (b - 1) := Nat.pow_le_pow_right (by omega) (by omega)
  omega
 ·omega
namespace MerkleFn
theorem zdz (vs : Array Value) (w : World) : (callFunc 33 vs).run Tryd.prog w = .ok (.enter 33 vs) w := by kernel_rfl
end MerkleFn
theorem zl7 (x : Nat) (hx : x < 18446744073709551616) (w : World) : Calls Tryd.prog 78 #[.int .u64 (x : Int)] w fun e w' => e = .returned (.int .i64 ((Lib.bitLen x : Nat) : Int)) ∧ w' = w := by
 go_enter Tryd.func78, Tryd.ntmps78
 go_wp2_with (go_at_call 94; refine (zpg (x : Int) _ (by omega) (by omega)).mono ?_; rintro e w2 ⟨rfl, rfl⟩; rw [Int.toNat_natCast])
 go_ret
 exact ⟨rfl, rfl⟩
theorem zop (l : Nat) (hl : l ≤ 1099511627776) (w : World) : Calls Tryd.prog 50 #[.int .i64 (l : Int)] w fun e w' => e = .returned (.int .i64 ((dep l : Nat) : Int)) ∧ w' = w := by
 by_cases h : l < 2
 ·have hd : dep l = 0 := by unfold dep; rw [if_pos (by omega)]
  rw [hd]
  go_enter Tryd.func50, Tryd.ntmps50
  go_wp2_with fail
  go_ret
  exact ⟨rfl, rfl⟩
 ·obtain ⟨m, rfl⟩ : ∃ m, l = m + 1 := ⟨l - 1, by omega⟩
  have hb := zjq (m + 1) (by omega) (by omega)
  rw [Nat.add_sub_cancel] at hb
  rw [← hb]
  clear hb
  have h2 : 2 ≤ m + 1 := by omega
  clear h
  go_enter Tryd.func50, Tryd.ntmps50
  go_wp2_with (first
   | (refine zab rfl 6 rfl (.int .i64 (m : Int)) ?_ ?_; (· exact za1 rfl rfl rfl rfl (fun w => subd m (by omega) w) _))
   | (refine zab rfl 7 rfl (.int .u64 (m : Int)) ?_ ?_; (· exact zdc rfl rfl (fun w => TreeRef.cvu m (by omega) w) _))
   | (go_at_call 78; refine (zl7 m (by omega) _).mono ?_; rintro e w2 ⟨rfl, rfl⟩))
  go_ret
  exact ⟨rfl, rfl⟩
namespace MerkleUp
def zpart (j : Nat) : Nat → Nat := fun i => if i < (j + 1) * 32 then zrL i else 0
theorem zth {j i : Nat} (hi : i < 32) : u8v (zpart j) (j * 32 + i) = u8v (zrN j) i := by
 simp only [u8v, zpart]
 rw [if_pos (by omega), zed j i hi]
theorem zt3 (j : Nat) : zrN (j + 1) = shaB (catN 32 (zrN j) (zrN j)) 64 := rfl
theorem zoq {j i : Nat} (h : i < (j + 1) * 32) : zpart j i = zrL i := if_pos h
theorem zqa {j i : Nat} (h : ¬ i < (j + 1) * 32) : zpart j i = 0 := if_neg h
theorem zv4 {j N : Nat} : ∀ q, q < N → (if (j + 1) * 32 ≤ q ∧ q < (j + 1) * 32 + 32 then u8v (shaB (catN 32 (zrN j) (zrN j)) 64) (q - (j + 1) * 32) else u8v (zpart j) q) = u8v (zpart (j + 1)) q := fun q _ => by
 by_cases h : (j + 1) * 32 ≤ q ∧ q < (j + 1) * 32 + 32
 ·have e : zrL q = zrN (j + 1) (q - (j + 1) * 32) := by
   have := zed (j + 1) (q - (j + 1) * 32) (by omega)
   rwa [show (j + 1) * 32 + (q - (j + 1) * 32) = q by omega] at this
  have h2 : q < (j + 1 + 1) * 32 := by omega
  have e2 := zoq h2
  rw [if_pos h]
  exact congrArg (fun k : Nat => Value.int .u8 (k : Int)) ((e2.trans (e.trans (congrFun (zt3 j) _))).symm)
 ·rw [if_neg h]
  by_cases h1 : q < (j + 1) * 32
  ·have h2 : q < (j + 1 + 1) * 32 := Nat.lt_of_lt_of_le h1 (Nat.mul_le_mul_right 32 (Nat.le_succ _))
   exact congrArg (fun k : Nat => Value.int .u8 (k : Int)) ((zoq h1).trans (zoq h2).symm)
  ·have h2 : ¬ q < (j + 1 + 1) * 32 := fun h2 => h ⟨Nat.le_of_not_lt h1, by rw [← Nat.succ_mul]; exact h2⟩
   exact congrArg (fun k : Nat => Value.int .u8 (k : Int)) ((zqa h1).trans (zqa h2).symm)
theorem zv5 {i : Nat} : Value.int .u8 0 = u8v (zpart 0) i := by
 simp only [u8v, zpart]
 by_cases h : i < (0 + 1) * 32
 ·rw [if_pos h]
  have := zed 0 i (by omega)
  rw [show 0 * 32 + i = i by omega] at this
  rw [this]; rfl
 ·rw [if_neg h]; rfl
def lpart (j : Nat) (X : Nat → Nat) : Nat → Nat := fun i => if i < j * 32 then lvl X i else 0
theorem zqb {j N : Nat} {X : Nat → Nat} : ∀ q, q < N → (if j * 32 ≤ q ∧ q < j * 32 + 32 then u8v (shaB (catN 32 (fun q => X (2 * j * 32 + q)) (fun q => X ((2 * j + 1) * 32 + q))) 64) (q - j * 32) else u8v (lpart j X) q) = u8v (lpart (j + 1) X) q := fun q _ => by
 by_cases h : j * 32 ≤ q ∧ q < j * 32 + 32
 ·rw [if_pos h]
  simp only [u8v, lpart]
  rw [if_pos (by omega)]
  unfold lvl
  rw [show q / 32 = j by omega, show q % 32 = q - j * 32 by omega]
 ·rw [if_neg h]
  simp only [u8v, lpart]
  by_cases h1 : q < j * 32
  ·rw [if_pos h1, if_pos (by omega)]
  ·rw [if_neg h1, if_neg (by omega)]
theorem zv6 {n : Nat} {x z : Nat → Nat} {N : Nat} : ∀ i, i < N → catF (n * 32) (u8v x) (u8v z) i = u8v (catN (n * 32) x z) i := fun i _ => by
 simp only [catF, u8v, catN]; split <;> rfl
theorem quo2 (m : Nat) (h2 : m ≤ 4611686018427387903) (w : World) : (binOp .quo 3 (.int .i64 ((2 * m : Nat) : Int)) (.int .i64 2)).run Tryd.prog w = .ok (.int .i64 (m : Int)) w := by
 simp [go_sem, IntKind.wrap, IntKind.bits, IntKind.signed]
 omega
theorem rem2 (n r : Nat) (h2 : n ≤ 4611686018427387903) (hr : n % 2 = r) (w : World) : (binOp .rem 3 (.int .i64 (n : Int)) (.int .i64 2)).run Tryd.prog w = .ok (.int .i64 (r : Int)) w := by
 subst hr
 have h : (n : Int).tmod 2 = ((n % 2 : Nat) : Int) := by rw [Int.tmod_eq_emod_of_nonneg (by omega)]; omega
 simp [go_sem, h]
end MerkleUp
open MerkleFn MerkleUp in
theorem zg9 (n : Nat) (hn : n ≤ 40) (w : World) (hp : ShaPkg w) :
 Calls Tryd.prog 51 #[.int .i64 (n : Int)] w fun e w' => ∃ b, e = .returned (.slice (some ⟨b, 0, none⟩) (n + 1) (n + 1)) ∧ w.heap.size ≤ b ∧ w'.rowIs b 24 ((n + 1) * 32) (u8v zrL) ∧ Below w.heap.size w w' := by
 have HP := Hd hp
 have HS0 := Hd (HS.nil w)
 clear hp
 go_enter Tryd.func51, Tryd.ntmps51
 go_wp2_with (first
  | (refine zd5 rfl 32 (e := 24) (z := .agg (Array.replicate 32 (.int .u8 0))) (k := 32) (bytes := 32) Ty32 (by kernel_rfl) (.tmp 6) (.tmp 6) rfl (n + 1) rfl rfl (u8v (zpart 0)) (fun i hi => (zii 32 _ (by omega) i hi).trans (congrArg some zv5)) (by omega) (by omega) HS0.out ?_; intro b w1 hb1 hc1 hs; have HS1 := Hd hs; clear hs))
 go_loopw [9] (fun i wr => ∃ j : Nat, i = .int .i64 (j : Int) ∧ j ≤ n ∧ HS w wr [⟨b, 24, (n + 1) * 32, u8v (zpart j)⟩]) (fun i _ => n - (intOf i).toNat)
 case atStart => exact ⟨0, rfl, by omega, HS1.out⟩
 case round =>
  clear HS1
  obtain ⟨j, rfl, hj, hs⟩ := hrel
  have HSq := Hd hs
  have HWr := Hd (hs.out (by simp; omega))
  clear hs
  by_cases hjn : j < n
  ·go_wp2_with fail
   refine zao (l := [_, _, _, _, _, _, _, _, _, _, _, _, _]) (tl := []) (B := wr.heap.size) (w0 := wr) [sI (.slice (some ⟨b, 0, none⟩) (n + 1) (n + 1)), sI (.int .i64 ((j : Nat) : Int)), sI (.int .i64 ((j + 1 : Nat) : Int)), sI (.slice (some ⟨b, 0, none⟩) (n + 1) (n + 1)), sI (.int .i64 ((j : Nat) : Int)), sI (.pointer (some ⟨b, j * 32, none⟩)), sI (rootV (zrN j)), sI (.slice (some ⟨b, 0, none⟩) (n + 1) (n + 1)), sI (.int .i64 ((j : Nat) : Int)), sI (.pointer (some ⟨b, j * 32, none⟩)), sI (rootV (zrN j)), sI (rootV (shaB (catN 32 (zrN j) (zrN j)) 64)), sI (.pointer (some ⟨b, (j + 1) * 32, none⟩))] (by kernel_rfl) (by kernel_rfl) rfl lR (Below.refl _ _) ⟨?_, ?_, ?_, ?_, ?_, ?_, ?_, ?_, ?_, ?_, ?_, ?_, ?_, trivial⟩ ?_
   ·exact (zaa _ rfl (.inl rfl) rfl)
   ·exact (zaa _ rfl (.inl rfl) rfl)
   ·exact zcc j 1 (by omega) rfl rfl (oT rfl) OpK.const
   ·exact (zaa _ rfl (.inl rfl) rfl)
   ·exact (zaa _ rfl (.inl rfl) rfl)
   ·exact zak rfl rfl (oT rfl) (oT rfl) (fun w => (zaw (z := 32) w Ty32 (by kernel_rfl) ⟨b, 0, none⟩ (by omega)).trans (by rw [zai]))
   ·exact zad rfl rfl (oT rfl) (fun w' hb => zax w' b (j * 32) 32 24 _ (u8v (zrN j)) (fun i hi => ((zaj (HSq.out.row 0 rfl) hb (HSq.out.row 0 rfl).lt).cell (i := j * 32 + i) (show j * 32 + i < (n + 1) * 32 by omega)).trans (congrArg some (zth hi))) Ty24 rfl s24)
   ·exact (zaa _ rfl (.inl rfl) rfl)
   ·exact (zaa _ rfl (.inl rfl) rfl)
   ·exact zak rfl rfl (oT rfl) (oT rfl) (fun w => (zaw (z := 32) w Ty32 (by kernel_rfl) ⟨b, 0, none⟩ (by omega)).trans (by rw [zai]))
   ·exact zad rfl rfl (oT rfl) (fun w' hb => zax w' b (j * 32) 32 24 _ (u8v (zrN j)) (fun i hi => ((zaj (HSq.out.row 0 rfl) hb (HSq.out.row 0 rfl).lt).cell (i := j * 32 + i) (show j * 32 + i < (n + 1) * 32 by omega)).trans (congrArg some (zth hi))) Ty24 rfl s24)
   ·exact zbi zdz rfl rfl (oT rfl) (oT rfl) (fun w' hb => (zem (zrN j) (zrN j) (zfg j) (zfg j) w' (HP.out.below (HWr.out.trans (hb.mono HWr.out.size)))).mono fun e w'' ⟨he, hb2⟩ => ⟨_, he, rfl, hb2⟩)
   ·exact zak rfl rfl (oT rfl) (oT rfl) (fun w => (zaw (z := 32) w Ty32 (by kernel_rfl) ⟨b, 0, none⟩ (by omega)).trans (by rw [zai]))
   ·intro w' hb
    simp only [fin, sI, forall_eq]
    simp only [pcX]
    have hs := HSq.out.below hb
    refine zds 24 (.tmp 24) (.tmp 23) rfl hs 0 rfl ((j + 1) * 32) 32 (u8v (shaB (catN 32 (zrN j) (zrN j)) 64)) rfl rfl (by kernel_rfl) (by omega) (fun _ _ => rfl) (u8v (zpart (j + 1))) zv4 ?_
    clear hs hb
    intro wy hs
    have HY := Hd hs
    clear hs
    simp only [seqWp, Act.put]
    go_wp2_with fail
    go_roundw
    case rel => exact ⟨j + 1, by go_num, by omega, HY.out⟩
    case measure => simp [intOf]; omega
  ·obtain rfl : j = n := by omega
   go_wp2_with fail
   go_ret
   exact ⟨b, rfl, hb1, (HSq.out.row 0 rfl).congr (fun i hi => by simp only [u8v, zpart]; rw [if_pos hi]), HWr.out⟩
def UpEnd (w : World) (h : Nat) (X : Nat → Nat) (w' : World) (e : Ending) : Prop := ∃ b, e = .returned (.slice (some ⟨b, 0, none⟩) h h) ∧ w.heap.size ≤ b ∧ w'.rowIs b 24 (h * 32) (u8v (lvl X)) ∧ Below w.heap.size w w'
open MerkleFn MerkleUp in
theorem zt4 (n c : Nat) (A : Option Addr) (x z : Nat → Nat) (w : World) (hb : Rd w w.heap.size A (n * 32) (u8v x)) (hx : ∀ i, x i < 256) (hz : ∀ i, z i < 256) (hnc : n ≤ c) (hn1 : 1 ≤ n) (hn : n * 32 ≤ 140737488351232) (hp : ShaPkg w) :
 Calls Tryd.prog 52 #[.slice A n c, rootV z] w fun e w' => UpEnd w ((n + 1) / 2) (catN (n * 32) x z) w' e := by
 have HB := Hd hb
 have HX := Hd hx
 have HZ := Hd hz
 have HP := Hd hp
 have HS0 := Hd (HS.nil w)
 obtain ⟨a, rfl, _, _⟩ := hb (by omega)
 obtain ⟨X, hX⟩ : ∃ X, X = catN (n * 32) x z := ⟨_, rfl⟩
 have HXl := Hd (show ∀ i, X i < 256 by rw [hX]; exact zbo hx hz)
 rw [← hX]
 have HXe := Hd hX
 clear hb hx hz hp hX
 by_cases hodd : n % 2 = 1
 ·obtain ⟨h, hh⟩ : ∃ h, n + 1 = 2 * h := ⟨(n + 1) / 2, by omega⟩
  rw [show (n + 1) / 2 = h by omega]
  go_enter Tryd.func52, Tryd.ntmps52
  go_wp2_with (first
   | (refine zaz rfl 24 _ 3 rfl rfl HS0.out 32 (u8v z) rfl ?_; intro b3 w3 hb3 hc3 hs; have HS3 := Hd hs; clear hs)
   | (refine zab rfl 9 rfl (.int .i64 1) ?_ ?_; (· exact za1 rfl rfl rfl rfl (fun w => rem2 n 1 (by omega) hodd w) _)))
  have HW3 := Hd (HS3.out.out (by simp; omega))
  refine zao (l := [_, _, _, _, _, _, _, _]) (tl := [_]) (B := w3.heap.size) (w0 := w3) [sI (.slice (some a) (n) (c)), sI (.slice (some a) (n) (c)), sI (.int .i64 ((n : Nat) : Int)), sI (.slice (some a) (n) (c)), sI (.int .i64 ((n : Nat) : Int)), sI (.slice (some a) (n) (n)), sI (rootV z), SF.rdZ 1 32 (u8v z)] (by kernel_rfl) (by kernel_rfl) rfl lR (Below.refl _ _) ⟨?_, ?_, ?_, ?_, ?_, ?_, ?_, ?_, trivial⟩ ?_
  ·exact (zaa _ rfl (.inl rfl) rfl)
  ·exact (zaa _ rfl (.inl rfl) rfl)
  ·exact zcw Ty32 rfl rfl (oT rfl)
  ·exact (zaa _ rfl (.inl rfl) rfl)
  ·exact zcw Ty32 rfl rfl (oT rfl)
  ·exact zp9 rfl rfl (oT rfl) (oT rfl) (oT rfl) (fun w => zt2 (z := 32) Ty32 (by kernel_rfl) (some a) n c n hnc w)
  ·exact zad rfl rfl (oT rfl) (fun w' hb => zd2 (HS3.out.row 0 rfl) (HS3.out.row 0 rfl).lt Ty24 rfl s24 w' hb)
  ·exact zkv Ty32 s24 (by omega) (by omega) z24 rfl rfl (u8v z) (oT rfl)
  ·intro w' hb
   simp only [fin, sI, SF.rdZ, forall_eq]
   simp only [pcX]
   rintro _ ⟨A18, c18, rfl, hr18⟩
   have hw' := HW3.out.trans (hb.mono HW3.out.size)
   refine zr3 w' (.tmp 16) (.tmp 18) 32 w.heap.size i24 Ty32 (by rfl) rfl rfl rfl (HB.out.below hw') hr18 (by omega) ⟨by omega, by omega⟩ hw'.size ?_
   intro b19 c0 wm ho hgb
   have HWm := Hd (hw'.trans (hgb.mono hw'.size))
   have hrd := (ho.rd.congr (f' := u8v X) (fun i hi => (zv6 (N := (n + 1) * 32) i hi).trans (by rw [HXe.out])))
   rw [hh] at hrd ho ⊢
   have HX0 := Hd hrd
   have hb19 := (ho.base_le _ rfl)
   have hcap := ho.cap
   clear ho hrd hgb hw' hr18 hb HS3 HS0
   refine zpn (.slice (some ⟨b19, 0, none⟩) (2 * h) c0) (.inl rfl) rfl ?_
   simp only [seqWp, Act.put, List.setIfInBounds_toArray, List.set_cons_succ, List.set_cons_zero]
   obtain ⟨a0, ha0⟩ : ∃ a0 : Addr, a0 = ⟨b19, 0, none⟩ := ⟨_, rfl⟩
   rw [← ha0] at HX0 ⊢
   clear ha0
   go_wp2_with (first
    | (refine zab rfl 22 rfl (.int .i64 (h : Int)) ?_ ?_; (· exact za1 rfl rfl rfl rfl (fun w => quo2 h (by omega) w) _))
    | (refine zd5 rfl 32 (e := 24) (z := .agg (Array.replicate 32 (.int .u8 0))) (k := 32) (bytes := 32) Ty32 (by kernel_rfl) (.tmp 22) (.tmp 22) rfl h rfl rfl (u8v (lpart 0 X)) (fun i hi => (zii 32 _ (by omega) i hi).trans (congrArg some (by simp [u8v, lpart]))) (by omega) (by omega) (HS.nil wm) ?_; intro b w1 hb1 hc1 hs; have HS1 := Hd hs; clear hs))
   go_loopw [26] (fun i wr => ∃ j : Nat, i = .int .i64 (j : Int) ∧ j ≤ h ∧ HS wm wr [⟨b, 24, h * 32, u8v (lpart j X)⟩]) (fun i _ => h - (intOf i).toNat)
   case atStart => exact ⟨0, rfl, by omega, HS1.out⟩
   case round =>
    clear HS1
    obtain ⟨j, rfl, hj, hs⟩ := hrel
    have HSq := Hd hs
    have HWq := Hd (hs.out (by simp; omega))
    have HWq0 := Hd (HWm.out.trans (HWq.out.mono HWm.out.size))
    clear hs
    by_cases hjn : j < h
    ·go_wp2_with fail
     refine zao (l := [_, _, _, _, _, _, _, _, _, _, _, _, _, _, _]) (tl := []) (B := wr.heap.size) (w0 := wr) [sI (.slice (some ⟨b, 0, none⟩) (h) (h)), sI (.int .i64 ((j : Nat) : Int)), sI (.slice (some a0) (2 * h) (c0)), sI (.int .i64 ((j : Nat) : Int)), sI (.int .i64 ((2 * j : Nat) : Int)), sI (.pointer (some (a0.add (2 * j * 32)))), sI (rootV (fun q => X (2 * j * 32 + q))), sI (.slice (some a0) (2 * h) (c0)), sI (.int .i64 ((j : Nat) : Int)), sI (.int .i64 ((2 * j : Nat) : Int)), sI (.int .i64 ((2 * j + 1 : Nat) : Int)), sI (.pointer (some (a0.add ((2 * j + 1) * 32)))), sI (rootV (fun q => X ((2 * j + 1) * 32 + q))), sI (rootV (shaB (catN 32 (fun q => X (2 * j * 32 + q)) (fun q => X ((2 * j + 1) * 32 + q))) 64)), sI (.pointer (some ⟨b, j * 32, none⟩))] (by kernel_rfl) (by kernel_rfl) rfl lR (Below.refl _ _) ⟨?_, ?_, ?_, ?_, ?_, ?_, ?_, ?_, ?_, ?_, ?_, ?_, ?_, ?_, ?_, trivial⟩ ?_
     ·exact (zaa _ rfl (.inl rfl) rfl)
     ·exact (zaa _ rfl (.inl rfl) rfl)
     ·exact (zaa _ rfl (.inl rfl) rfl)
     ·exact (zaa _ rfl (.inl rfl) rfl)
     ·exact zbn 2 j (by omega) rfl rfl OpK.const (oT rfl)
     ·exact zak rfl rfl (oT rfl) (oT rfl) (fun w => zaw (z := 32) w Ty32 (by kernel_rfl) a0 (by omega))
     ·exact zad rfl rfl (oT rfl) (fun w' hb => zbd w' (a0.add (2 * j * 32)) 32 24 _ (u8v (fun q => X (2 * j * 32 + q))) (fun i hi => by rw [zb1]; exact ((HX0.out.below (HWq.out.trans (hb.mono HWq.out.size))).cells (show 2 * j * 32 + i < 2 * h * 32 by omega))) Ty24 rfl s24)
     ·exact (zaa _ rfl (.inl rfl) rfl)
     ·exact (zaa _ rfl (.inl rfl) rfl)
     ·exact zbn 2 j (by omega) rfl rfl OpK.const (oT rfl)
     ·exact zcc (2 * j) 1 (by omega) rfl rfl (oT rfl) OpK.const
     ·exact zak rfl rfl (oT rfl) (oT rfl) (fun w => zaw (z := 32) w Ty32 (by kernel_rfl) a0 (by omega))
     ·exact zad rfl rfl (oT rfl) (fun w' hb => zbd w' (a0.add ((2 * j + 1) * 32)) 32 24 _ (u8v (fun q => X ((2 * j + 1) * 32 + q))) (fun i hi => by rw [zb1]; exact ((HX0.out.below (HWq.out.trans (hb.mono HWq.out.size))).cells (show (2 * j + 1) * 32 + i < 2 * h * 32 by omega))) Ty24 rfl s24)
     ·exact zbi zdz rfl rfl (oT rfl) (oT rfl) (fun w' hb => (zem (fun q => X (2 * j * 32 + q)) (fun q => X ((2 * j + 1) * 32 + q)) (fun _ => HXl.out _) (fun _ => HXl.out _) w' (HP.out.below (HWq0.out.trans (hb.mono HWq0.out.size)))).mono fun e w'' ⟨he, hb2⟩ => ⟨_, he, rfl, hb2⟩)
     ·exact zak rfl rfl (oT rfl) (oT rfl) (fun w => (zaw (z := 32) w Ty32 (by kernel_rfl) ⟨b, 0, none⟩ (by omega)).trans (by rw [zai]))
     ·intro w' hb
      simp only [fin, sI, forall_eq]
      simp only [pcX]
      have hs := HSq.out.below hb
      refine zds 24 (.tmp 43) (.tmp 42) rfl hs 0 rfl (j * 32) 32 (u8v (shaB (catN 32 (fun q => X (2 * j * 32 + q)) (fun q => X ((2 * j + 1) * 32 + q))) 64)) rfl rfl (by kernel_rfl) (by omega) (fun _ _ => rfl) (u8v (lpart (j + 1) X)) zqb ?_
      clear hs hb
      intro wy hs
      have HY := Hd hs
      clear hs
      simp only [seqWp, Act.put]
      go_wp2_with fail
      go_roundw
      case rel => exact ⟨j + 1, by go_num, by omega, HY.out⟩
      case measure => simp [intOf]; omega
    ·obtain rfl : j = h := by omega
     go_wp2_with fail
     go_ret
     exact ⟨b, rfl, by have := HWm.out.size; omega, (HSq.out.row 0 rfl).congr (fun i hi => by simp only [u8v, lpart]; rw [if_pos hi]), HWq0.out⟩
 ·obtain ⟨h, rfl⟩ : ∃ h, n = 2 * h := ⟨n / 2, by omega⟩
  rw [show (2 * h + 1) / 2 = h by omega]
  go_enter Tryd.func52, Tryd.ntmps52
  go_upto_region 3 with (first
   | (refine zaz rfl 24 _ 3 rfl rfl HS0.out 32 (u8v z) rfl ?_; intro b3 wm hb3 hc3 hs; have HS3 := Hd hs; clear hs)
   | (refine zab rfl 9 rfl (.int .i64 0) ?_ ?_; (· exact za1 rfl rfl rfl rfl (fun w => rem2 (2 * h) 0 (by omega) (by omega) w) _)))
  have HWm := Hd (HS3.out.out (by simp; omega))
  have HX0 := Hd (((HB.out.below HWm.out).more HWm.out.size).congr (f' := u8v X) (fun i hi => by rw [HXe.out]; simp only [u8v, catN]; rw [if_pos hi]))
  have hcap := hnc
  obtain ⟨a0, ha0⟩ : ∃ a0 : Addr, a0 = a := ⟨_, rfl⟩
  obtain ⟨c0, hc0⟩ : ∃ c0, c0 = c := ⟨_, rfl⟩
  rw [← ha0] at HX0 ⊢
  rw [← hc0] at hcap ⊢
  clear ha0 hc0
  clear HS3 HS0
  go_wp2_with (first
   | (refine zab rfl 22 rfl (.int .i64 (h : Int)) ?_ ?_; (· exact za1 rfl rfl rfl rfl (fun w => quo2 h (by omega) w) _))
   | (refine zd5 rfl 32 (e := 24) (z := .agg (Array.replicate 32 (.int .u8 0))) (k := 32) (bytes := 32) Ty32 (by kernel_rfl) (.tmp 22) (.tmp 22) rfl h rfl rfl (u8v (lpart 0 X)) (fun i hi => (zii 32 _ (by omega) i hi).trans (congrArg some (by simp [u8v, lpart]))) (by omega) (by omega) (HS.nil wm) ?_; intro b w1 hb1 hc1 hs; have HS1 := Hd hs; clear hs))
  go_loopw [26] (fun i wr => ∃ j : Nat, i = .int .i64 (j : Int) ∧ j ≤ h ∧ HS wm wr [⟨b, 24, h * 32, u8v (lpart j X)⟩]) (fun i _ => h - (intOf i).toNat)
  case atStart => exact ⟨0, rfl, by omega, HS1.out⟩
  case round =>
   clear HS1
   obtain ⟨j, rfl, hj, hs⟩ := hrel
   have HSq := Hd hs
   have HWq := Hd (hs.out (by simp; omega))
   have HWq0 := Hd (HWm.out.trans (HWq.out.mono HWm.out.size))
   clear hs
   by_cases hjn : j < h
   ·go_wp2_with fail
    refine zao (l := [_, _, _, _, _, _, _, _, _, _, _, _, _, _, _]) (tl := []) (B := wr.heap.size) (w0 := wr) [sI (.slice (some ⟨b, 0, none⟩) (h) (h)), sI (.int .i64 ((j : Nat) : Int)), sI (.slice (some a0) (2 * h) (c0)), sI (.int .i64 ((j : Nat) : Int)), sI (.int .i64 ((2 * j : Nat) : Int)), sI (.pointer (some (a0.add (2 * j * 32)))), sI (rootV (fun q => X (2 * j * 32 + q))), sI (.slice (some a0) (2 * h) (c0)), sI (.int .i64 ((j : Nat) : Int)), sI (.int .i64 ((2 * j : Nat) : Int)), sI (.int .i64 ((2 * j + 1 : Nat) : Int)), sI (.pointer (some (a0.add ((2 * j + 1) * 32)))), sI (rootV (fun q => X ((2 * j + 1) * 32 + q))), sI (rootV (shaB (catN 32 (fun q => X (2 * j * 32 + q)) (fun q => X ((2 * j + 1) * 32 + q))) 64)), sI (.pointer (some ⟨b, j * 32, none⟩))] (by kernel_rfl) (by kernel_rfl) rfl lR (Below.refl _ _) ⟨?_, ?_, ?_, ?_, ?_, ?_, ?_, ?_, ?_, ?_, ?_, ?_, ?_, ?_, ?_, trivial⟩ ?_
    ·exact (zaa _ rfl (.inl rfl) rfl)
    ·exact (zaa _ rfl (.inl rfl) rfl)
    ·exact (zaa _ rfl (.inl rfl) rfl)
    ·exact (zaa _ rfl (.inl rfl) rfl)
    ·exact zbn 2 j (by omega) rfl rfl OpK.const (oT rfl)
    ·exact zak rfl rfl (oT rfl) (oT rfl) (fun w => zaw (z := 32) w Ty32 (by kernel_rfl) a0 (by omega))
    ·exact zad rfl rfl (oT rfl) (fun w' hb => zbd w' (a0.add (2 * j * 32)) 32 24 _ (u8v (fun q => X (2 * j * 32 + q))) (fun i hi => by rw [zb1]; exact ((HX0.out.below (HWq.out.trans (hb.mono HWq.out.size))).cells (show 2 * j * 32 + i < 2 * h * 32 by omega))) Ty24 rfl s24)
    ·exact (zaa _ rfl (.inl rfl) rfl)
    ·exact (zaa _ rfl (.inl rfl) rfl)
    ·exact zbn 2 j (by omega) rfl rfl OpK.const (oT rfl)
    ·exact zcc (2 * j) 1 (by omega) rfl rfl (oT rfl) OpK.const
    ·exact zak rfl rfl (oT rfl) (oT rfl) (fun w => zaw (z := 32) w Ty32 (by kernel_rfl) a0 (by omega))
    ·exact zad rfl rfl (oT rfl) (fun w' hb => zbd w' (a0.add ((2 * j + 1) * 32)) 32 24 _ (u8v (fun q => X ((2 * j + 1) * 32 + q))) (fun i hi => by rw [zb1]; exact ((HX0.out.below (HWq.out.trans (hb.mono HWq.out.size))).cells (show (2 * j + 1) * 32 + i < 2 * h * 32 by omega))) Ty24 rfl s24)
    ·exact zbi zdz rfl rfl (oT rfl) (oT rfl) (fun w' hb => (zem (fun q => X (2 * j * 32 + q)) (fun q => X ((2 * j + 1) * 32 + q)) (fun _ => HXl.out _) (fun _ => HXl.out _) w' (HP.out.below (HWq0.out.trans (hb.mono HWq0.out.size)))).mono fun e w'' ⟨he, hb2⟩ => ⟨_, he, rfl, hb2⟩)
    ·exact zak rfl rfl (oT rfl) (oT rfl) (fun w => (zaw (z := 32) w Ty32 (by kernel_rfl) ⟨b, 0, none⟩ (by omega)).trans (by rw [zai]))
    ·intro w' hb
     simp only [fin, sI, forall_eq]
     simp only [pcX]
     have hs := HSq.out.below hb
     refine zds 24 (.tmp 43) (.tmp 42) rfl hs 0 rfl (j * 32) 32 (u8v (shaB (catN 32 (fun q => X (2 * j * 32 + q)) (fun q => X ((2 * j + 1) * 32 + q))) 64)) rfl rfl (by kernel_rfl) (by omega) (fun _ _ => rfl) (u8v (lpart (j + 1) X)) zqb ?_
     clear hs hb
     intro wy hs
     have HY := Hd hs
     clear hs
     simp only [seqWp, Act.put]
     go_wp2_with fail
     go_roundw
     case rel => exact ⟨j + 1, by go_num, by omega, HY.out⟩
     case measure => simp [intOf]; omega
   ·obtain rfl : j = h := by omega
    go_wp2_with fail
    go_ret
    exact ⟨b, rfl, by have := HWm.out.size; omega, (HSq.out.row 0 rfl).congr (fun i hi => by simp only [u8v, lpart]; rw [if_pos hi]), HWq0.out⟩
theorem zqc {f g : Nat → Nat} (h : ∀ i, i < 32 → f i = g i) : rootV f = rootV g := congrArg Value.agg (zca fun i hi => congrArg (fun k : Nat => Value.int .u8 (k : Int)) (h i hi))
theorem zor {k i : Nat} (hi : i < 32) : u8v zrL (k * 32 + i) = u8v (zrN k) i := by
 simp only [u8v]; rw [zed k i hi]
theorem arr1 (f g : Nat → Nat) (v : Value) (h : ∀ i, i < 32 → f i = g i) : Ending.returned (.tuple #[.agg (arr 32 (u8v f)), v]) = .returned (.tuple #[rootV g, v]) := congrArg (fun r => Ending.returned (.tuple #[r, v])) (zqc h)
theorem zt5 {x : Nat → Nat} (hx : ∀ i, x i < 256) (d i : Nat) : levN d x i < 256 := by
 cases d with
 | zero => exact hx i
 | succ d => rw [zhr]; exact zfx _ _ _
theorem zd8 (n c : Nat) (A : Option Addr) (x : Nat → Nat) (l : Nat) (w : World) (hb : Rd w w.heap.size A (n * 32) (u8v x)) (hx : ∀ i, x i < 256) (hnc : n ≤ c) (hl : l ≤ 1099511627776) (hn : n ≤ l) (hp : ShaPkg w) :
 Calls Tryd.prog 25 #[.slice A n c, .int .i64 (l : Int)] w fun e w' => e = .returned (.tuple #[rootV (treeN (dep l) n x), .int .i64 0]) ∧ Below w.heap.size w w' := by
 obtain ⟨D, hD⟩ : ∃ D, D = dep l := ⟨_, rfl⟩
 have hD40 : D ≤ 40 := by rw [hD]; exact zd4 (k := 40) (by omega)
 have hDl : n ≤ 2 ^ D := by rw [hD]; exact lT hn (zb5 l)
 have HDp := Hd (zop l hl)
 rw [← hD] at HDp ⊢
 have HX := Hd hb
 have HXl := Hd hx
 have HP := Hd hp
 have HS0 := Hd (HS.nil w)
 clear hb hx hp hD
 by_cases hn0 : n = 0
 ·subst hn0
  clear hDl
  go_enter Tryd.func25, Tryd.ntmps25
  go_wp2_with (first
   | (refine zac rfl 24 4 rfl rfl HS0.out _ z24 32 (u8v fun _ => 0) n24 f24 ?_; intro b4 w4 hb4 hc4 hs4; have HS4 := Hd hs4; clear hs4)
   | (go_at_call 50; refine (HDp.out _).mono ?_; rintro e w5 ⟨rfl, hw⟩; subst hw)
   | (go_at_call 51; refine (zg9 D hD40 _ (HP.out.below (HS4.out.out (by simp; omega)))).mono ?_; rintro e w6 ⟨bz, rfl, hbz, hrz, hb6⟩; have HS6 := Hd ((HS4.out.below hb6).add hrz (by have := HS4.out.size; omega) (by have := HS4.out.lt 0 rfl; simp; omega)); clear hrz hb6)
   | (refine zab rfl 32 rfl (.pointer (some ⟨bz, D * 32, none⟩)) ?_ ?_; (· exact zbb rfl rfl rfl (fun w => (zaw (z := 32) w Ty32 (by kernel_rfl) ⟨bz, 0, none⟩ (by omega)).trans (by rw [zai])) _))
   | (refine zag rfl 24 _ rfl bz (D * 32) 32 (u8v (zrN D)) rfl _ (fun i hi => (HS6.out.cell 0 (D * 32 + i) rfl (show D * 32 + i < (D + 1) * 32 by omega)).trans (congrArg some (zor hi))) Ty24 rfl s24 _ rfl ?_)
   | (refine zaf rfl 24 (.tmp 4) (.tmp 33) rfl HS6.out 1 rfl (u8v (zrN D)) rfl rfl (by kernel_rfl) (fun _ _ => rfl) ?_; intro wy hs; have HY := Hd hs; clear hs))
  exact zb4 rfl (HY.out.row 1 rfl) _ (.int .i64 0) rfl rfl Ty24 rfl s24 rfl ⟨by rw [zft], HY.out.out (by simp; have := HS4.out.size; omega)⟩
 ·obtain ⟨P, hPd⟩ : ∃ P, P = padN (n * 32) x := ⟨_, rfl⟩
  have HPl := Hd (show ∀ i, P i < 256 by rw [hPd]; exact za6 HXl.out)
  have HE := Hd (arr1 (levN D P) (treeN D n x) (.int .i64 0) (fun i hi => by rw [zja D n x hDl i hi, hPd]))
  have HUp := Hd (fun d => zv3 d n x (levN d P) (by rw [hPd]; exact fun _ _ => rfl))
  rw [← hPd] at HUp
  have HX2 := Hd (HX.out.congr (f' := u8v P) (fun i hi => by rw [hPd]; simp only [u8v, padN]; rw [if_pos hi]))
  have hc1 := zt1 D n (by omega) hDl
  have hn00 : ((n : Int) == 0) = false := by rw [beq_eq_false_iff_ne]; omega
  clear hPd HX HXl hDl
  go_enter Tryd.func25, Tryd.ntmps25
  go_wp2_with (first
   | (refine zac rfl 24 4 rfl rfl HS0.out _ z24 32 (u8v fun _ => 0) n24 f24 ?_; intro b4 w4 hb4 hc4 hs4; have HS4 := Hd hs4; clear hs4)
   | (go_at_call 50; refine (HDp.out _).mono ?_; rintro e w5 ⟨rfl, hw⟩; subst hw)
   | (go_at_call 51; refine (zg9 D hD40 _ (HP.out.below (HS4.out.out (by simp; omega)))).mono ?_; rintro e w6 ⟨bz, rfl, hbz, hrz, hb6⟩; have HS6 := Hd ((HS4.out.below hb6).add hrz (by have := HS4.out.size; omega) (by have := HS4.out.lt 0 rfl; simp; omega)); have hbzw : w.heap.size ≤ bz := (by have := HS4.out.size; omega); clear hrz hb6))
  go_loopw [0, 35] (fun ch i wr => ∃ (d : Nat) (A' : Option Addr) (c' : Nat), ch = .slice A' (cnt d n) c' ∧ i = .int .i64 (d : Int) ∧ d ≤ D ∧ cnt d n ≤ c' ∧ Rd wr wr.heap.size A' (cnt d n * 32) (u8v (levN d P)) ∧ HS w wr [⟨bz, 24, (D + 1) * 32, u8v zrL⟩, ⟨b4, 24, 32, u8v fun _ => 0⟩]) (fun _ i _ => D - (intOf i).toNat)
  case atStart => exact ⟨0, A, c, rfl, rfl, by omega, hnc, (HX2.out.below (HS6.out.out (by simp; omega))).more HS6.out.size, HS6.out⟩
  case round =>
   clear HS6 HS4 HS0 HX2 HDp
   obtain ⟨d, A', c', rfl, rfl, hd, hcc, hrd, hs⟩ := hrel
   have HR := Hd hrd
   have HSq := Hd hs
   have HWq := Hd (hs.out (by simp; omega))
   have hcp := zn3 d n (by omega)
   have hcl := zv2 d n
   clear hrd hs
   by_cases hdD : d < D
   ·have HUd := Hd (HUp.out d)
    obtain ⟨m, hm⟩ : ∃ m, m = cnt d n := ⟨_, rfl⟩
    have hm2 : cnt (d + 1) n = (m + 1) / 2 := by rw [hm]; rfl
    rw [hm2] at HUd
    rw [← hm] at HUd HR hcp hcl hcc ⊢
    clear hm
    go_wp2_with (first
     | (refine zab rfl 41 rfl (.pointer (some ⟨bz, d * 32, none⟩)) ?_ ?_; (· exact zbb rfl rfl rfl (fun w => (zaw (z := 32) w Ty32 (by kernel_rfl) ⟨bz, 0, none⟩ (by omega)).trans (by rw [zai])) _))
     | (refine zag rfl 24 _ rfl bz (d * 32) 32 (u8v (zrN d)) rfl _ (fun i hi => (HSq.out.cell 0 (d * 32 + i) rfl (show d * 32 + i < (D + 1) * 32 by omega)).trans (congrArg some (zor hi))) Ty24 rfl s24 _ rfl ?_)
     | (go_at_call 52; refine (zt4 m c' A' (levN d P) (zrN d) _ HR.out (zt5 HPl.out d) (zfg d) hcc hcp (by omega) (HP.out.below HWq.out)).mono ?_; rintro e w7 ⟨b7, rfl, hb7, hr7, hbl7⟩; have HR7 := Hd (hr7.congr (fun i hi => congrArg (fun k : Nat => Value.int .u8 (k : Int)) (HUd.out i hi))); have HS7 := Hd (HSq.out.below hbl7); clear hr7 hbl7))
    go_roundw
    case rel => exact ⟨d + 1, some ⟨b7, 0, none⟩, (m + 1) / 2, congrArg (fun k => Value.slice (some ⟨b7, 0, none⟩) k ((m + 1) / 2)) hm2.symm, by go_num, by omega, by rw [hm2]; exact Nat.le_refl _, by rw [hm2]; exact Rd.of_row HR7.out lR HR7.out.lt, HS7.out⟩
    case measure => simp [intOf]; omega
   ·obtain rfl : d = D := by omega
    rw [hc1] at HR hcp hcl hcc ⊢
    obtain ⟨ad, hA, _, _⟩ := HR.out (by omega)
    subst hA
    go_wp2_with (first
     | (refine zab rfl 46 rfl (.pointer (some (ad.add (0 * 32)))) ?_ ?_; (· exact zbb rfl rfl rfl (fun w => zaw (z := 32) (k := 0) w Ty32 (by kernel_rfl) ad (by omega)) _))
     | (refine zae rfl 24 _ rfl 32 _ Ty24 rfl s24 (ad.add (0 * 32)) rfl (u8v (levN d P)) (fun q hq => by rw [zb1]; exact (HR.out.cell_ (show 0 * 32 + q < 1 * 32 by omega)).trans (by rw [Nat.zero_mul, Nat.zero_add])) ?_)
     | (refine zaf rfl 24 (.tmp 4) (.tmp 47) rfl HSq.out 1 rfl (u8v (levN d P)) rfl rfl (by kernel_rfl) (fun _ _ => rfl) ?_; intro wy hs; have HY := Hd hs; clear hs))
    exact zb4 rfl (HY.out.row 1 rfl) _ (.int .i64 0) rfl rfl Ty24 rfl s24 rfl ⟨HE.out, HY.out.out (by simp; omega)⟩
theorem zt6 (d : Nat) (hd : d ≤ 40) (w : World) (hp : ShaPkg w) :
 Calls Tryd.prog 79 #[.int .i64 (d : Int)] w fun e w' => e = .returned (.tuple #[rootV (zrN d), .int .i64 0]) ∧ Below w.heap.size w w' := by
 have HS0 := Hd (HS.nil w)
 have HP := Hd hp
 clear hp
 go_enter Tryd.func79, Tryd.ntmps79
 go_wp2_with (first
  | (refine zac rfl 24 2 rfl rfl HS0.out _ z24 32 (u8v fun _ => 0) n24 f24 ?_; intro b4 w4 hb4 hc4 hs4; have HS4 := Hd hs4; clear hs4)
  | (go_at_call 51; refine (zg9 d hd _ (HP.out.below (HS4.out.out (by simp; omega)))).mono ?_; rintro e w6 ⟨bz, rfl, hbz, hrz, hb6⟩; have HS6 := Hd ((HS4.out.below hb6).add hrz (by have := HS4.out.size; omega) (by have := HS4.out.lt 0 rfl; simp; omega)); clear hrz hb6)
  | (refine zab rfl 14 rfl (.pointer (some ⟨bz, d * 32, none⟩)) ?_ ?_; (· exact zbb rfl rfl rfl (fun w => (zaw (z := 32) w Ty32 (by kernel_rfl) ⟨bz, 0, none⟩ (by omega)).trans (by rw [zai])) _))
  | (refine zag rfl 24 _ rfl bz (d * 32) 32 (u8v (zrN d)) rfl _ (fun i hi => (HS6.out.cell 0 (d * 32 + i) rfl (show d * 32 + i < (d + 1) * 32 by omega)).trans (congrArg some (zor hi))) Ty24 rfl s24 _ rfl ?_)
  | (refine zaf rfl 24 (.tmp 2) (.tmp 15) rfl HS6.out 1 rfl (u8v (zrN d)) rfl rfl (by kernel_rfl) (fun _ _ => rfl) ?_; intro wy hs; have HY := Hd hs; clear hs))
 exact zb4 rfl (HY.out.row 1 rfl) _ (.int .i64 0) rfl rfl Ty24 rfl s24 rfl ⟨rfl, HY.out.out (by simp; have := HS4.out.size; omega)⟩
end Go.Proofs.YtomilckcgmhfcaaDoor
namespace Go.Proofs.YtomilckcgmhfcaaDoor
set_option maxRecDepth 40000
set_option maxHeartbeats 64000000
open Go.RowKit
theorem zcf {P : Program} (w : World) (ad : Addr) (ty : TypeId) (k : IntKind) (v : Value) (h : w.cell? ad = some v) (hu : P.underlying ty = some (.int k)) : (Instr.loadAt ty (.pointer (some ad))).run P w = .ok v w := by
 simp only [Instr.loadAt, Instr.sureAddr, Sem.run_bind, Sem.run_pure, Result.andThen]
 have hagg : (isAgg ty).run P w = .ok false w := by
  unfold isAgg
  rw [Sem.run_bind, run_underlying hu w]
  rfl
 simp [loadVar, Sem.run_bind, hagg, h]
theorem zbf {P : Program} {w : World} {o : Oper} {a : Act} {ty : TypeId} {x : Operand} {ad : Addr} {v : Value} (k : IntKind) (ho : o.op = .load ty x) (hx : a.eval x = .pointer (some ad)) (hu : P.underlying ty = some (.int k)) (h : w.cell? ad = some v) : (execOp a.eval o).run P w = .ok (.value v) w := by
 unfold execOp
 rw [ho]
 simp only [hx]
 simp [zcf w ad ty k v h hu]
namespace ShufFn
theorem zv7 (a b k : Nat) (ha : a < 2 ^ k) : a ||| b * 2 ^ k = a + b * 2 ^ k := by
 rw [Nat.or_comm, Nat.mul_comm, ← Nat.two_pow_add_eq_or_of_lt ha, Nat.add_comm]
theorem orU (a b : Nat) (ha : a < 18446744073709551616) (hb : b < 18446744073709551616) (w : World) : (binOp .or 22 (.int .u64 (a : Int)) (.int .u64 (b : Int))).run Tryd.prog w = .ok (.int .u64 ((a ||| b : Nat) : Int)) w := by
 have h1 : a ||| b < 18446744073709551616 := Nat.or_lt_two_pow (n := 64) ha hb
 have e : bits .or .u64 (a : Int) (b : Int) = ((a ||| b : Nat) : Int) := by
  show IntKind.u64.wrap ((BitVec.ofInt 64 (a : Int) ||| BitVec.ofInt 64 (b : Int)).toNat : Int) = _
  rw [BitVec.toNat_or, BitVec.ofInt_natCast, BitVec.ofInt_natCast, BitVec.toNat_ofNat, BitVec.toNat_ofNat, Nat.mod_eq_of_lt ha, Nat.mod_eq_of_lt hb]
  rw [IntKind.wrap_u64]
  omega
 simp [go_sem, e]
theorem andU (m c r : Nat) (h : m < 18446744073709551616) (hc : c < 18446744073709551616) (hr : m &&& c = r) (w : World) : (binOp .and 22 (.int .u64 (m : Int)) (.int .u64 (c : Int))).run Tryd.prog w = .ok (.int .u64 (r : Int)) w := by
 have hl : m &&& c < 18446744073709551616 := Nat.lt_of_le_of_lt Nat.and_le_left h
 have h2 : bits .and .u64 (m : Int) (c : Int) = (r : Int) := by
  show IntKind.u64.wrap ((BitVec.ofInt 64 (m : Int) &&& BitVec.ofInt 64 (c : Int)).toNat : Int) = _
  rw [BitVec.toNat_and, BitVec.ofInt_natCast, BitVec.ofInt_natCast, BitVec.toNat_ofNat, BitVec.toNat_ofNat, Nat.mod_eq_of_lt h, Nat.mod_eq_of_lt hc, hr, IntKind.wrap_u64]
  omega
 simp [go_sem, h2]
theorem subU (a b : Nat) (h : b ≤ a) (w : World) (ha : a < 18446744073709551616) : (binOp .sub 22 (.int .u64 (a : Int)) (.int .u64 (b : Int))).run Tryd.prog w = .ok (.int .u64 ((a - b : Nat) : Int)) w := by
 simp [go_sem, IntKind.wrap, IntKind.bits, IntKind.signed]
 omega
end ShufFn
open ShufFn
end Go.Proofs.YtomilckcgmhfcaaDoor
namespace Go.Proofs.YtomilckcgmhfcaaDoor
set_option maxRecDepth 40000
set_option maxHeartbeats 64000000
open Go.RowKit
theorem zv8 (v : Value) (i : Nat) (hi : i < 1) : (#[v] : Array Value)[i]? = some v := by
 obtain rfl : i = 0 := by omega
 rfl
section
variable {P : Program}
theorem zcj {ops : Array Oper} {rest : List Oper} {o : Oper} {a : Act} {w w0 : World} {Q : Exit → Act → World → Prop} {rows : List RowSpec} (hgd : o.guard = none) {t e : TypeId} (x : Operand) (v : Value) (ho : o.op = .buildSlice t 1 #[(0, x)]) (hx : a.eval x = v) (hr : ∀ w : World, (Instr.buildSlice t 1 #[(0, v)]).run P w = .ok (.slice (some ⟨w.heap.size, 0, none⟩) 1 1) (w.alloc (.cells #[v] e))) (h : HS w0 w rows)
    (hK : ∀ b w', w0.heap.size ≤ b → w.heap.size ≤ b → Below w.heap.size w w' → HS w0 w' (⟨b, e, 1, fun _ => v⟩ :: rows) → wpList P ops Q rest (a.put o.dst (.slice (some ⟨b, 0, none⟩) 1 1)) w') : wpList P ops Q (o :: rest) a w :=
 wpList_plain hgd fun _ hK' => by
  have hrun : (execOp a.eval o).run P w = .ok (.value (.slice (some ⟨w.heap.size, 0, none⟩) 1 1)) (w.alloc (.cells #[v] e)) := by
   unfold execOp
   rw [ho]
   simp only [List.map_toArray, List.map_cons, List.map_nil, hx]
   simp [hr]
  unfold Oper.wp
  rw [hrun]
  exact hK' _ _ (hK _ _ h.size lR ((Below.refl _ _).alloc lR _) (h.alloc #[v] e 1 (fun _ => v) rfl (fun i hi => zv8 v i hi)))
end
theorem HS.appO {w0 w w' : World} {rows : List RowSpec} {A : Option Addr} (h : HS w0 w rows) (hg : w.grownBy w' (A.map (·.block))) {B : Nat} (hA : ∀ ad, A = some ad → B ≤ ad.block) (hr : w0.heap.size ≤ B ∧ ∀ r ∈ rows, r.b < B) : HS w0 w' rows :=
 ⟨hg.os.trans h.os, hg.tape.trans h.tape, hg.output.trans h.output, lT h.size hg.size, fun k hk hr' => (hg.block k (Nat.lt_of_lt_of_le hk h.size) (fun e => by
  cases A with
  | none => cases e
  | some ad => injection e with e; have e' : k = ad.block := e; have := hA ad rfl; have := hr.1; omega)).trans (h.block k hk hr'), fun r hr' => (h.has r hr').of_block (hg.block r.b (h.has r hr').lt (fun e => by
  cases A with
  | none => cases e
  | some ad => injection e with e; have e' : r.b = ad.block := e; have := hA ad rfl; have := hr.2 r hr'; omega)), h.apart⟩
namespace ShufRounds
end ShufRounds
theorem zch {P : Program} (w : World) (ad : Addr) (ty e : TypeId) (v : Value) (h : w.cell? ad = some v) (hu : P.underlying ty = some (.pointer e)) : (Instr.loadAt ty (.pointer (some ad))).run P w = .ok v w := by
 simp only [Instr.loadAt, Instr.sureAddr, Sem.run_bind, Sem.run_pure, Result.andThen]
 have hagg : (isAgg ty).run P w = .ok false w := by
  unfold isAgg
  rw [Sem.run_bind, run_underlying hu w]
  rfl
 simp [loadVar, Sem.run_bind, hagg, h]
namespace ShufWalk
end ShufWalk
section
variable {P : Program}
end
abbrev u64v (f : Nat → Nat) : Nat → Value := fun i => .int .u64 ((f i : Nat) : Int)
theorem zee {o : Oper} {a : Act} {ty rt : TypeId} {x : Operand} {u : Value} {b : Bool} {w : World} (ho : o.op = .binOp .eql ty x (.const (.slice none 0 0)) rt) (hx : a.eval x = u) (hr : (binOp .eql ty u (.slice none 0 0)).run Tryd.prog w = .ok (.bool b) w) : (execOp a.eval o).run Tryd.prog w = .ok (.value (.bool b)) w := by
 unfold execOp
 rw [ho]
 have h2 : a.eval (.const (.slice none 0 0)) = .slice none 0 0 := rfl
 simp only [hx, h2]
 simp [eqGuard, hr]
def footP : Value → Option Nat
  | .pointer (some a) => some a.block
  | _ => none
def OF.new (base : Nat) (t : TypeId) (n : Nat) (f : Nat → Value) : OF :=
 ⟨fun v w => ∃ b, v = .pointer (some ⟨b, 0, none⟩) ∧ base ≤ b ∧ w.rowIs b t n f, footP,
  fun _ _ _ row ⟨b, e1, h1, h⟩ hg hne => ⟨b, e1, h1, h.of_block (hg.block b h.lt (fun er => hne b (by rw [e1]; rfl) er.symm))⟩,
  fun _ _ b ⟨b', e1, _, h⟩ hf => by subst e1; injection hf with hf; subst hf; exact h.lt⟩
section
variable {P : Program} {ops : Array Oper} {B : Nat} {w0 : World} {o : Oper} {lk : Tmp → OF}
theorem zhs (base : Nat) {t : TypeId} (hg : o.guard = none) (hop : o.op = .alloc t) (cs : Array Value) (hz : (P.info? t).bind (·.zero) = some (.agg cs)) (n : Nat) (f : Nat → Value) (hn : cs.size = n) (hc : ∀ i, i < n → cs[i]? = some (f i)) (hb : base ≤ w0.heap.size) : opObO P ops B w0 o (OF.new base t n f) lk none :=
 zrq hg fun a w hbel hf => by
  have hr : (Instr.alloc t true (.tuple #[])).run P w = .ok (.pointer (some ⟨w.heap.size, 0, none⟩)) (w.alloc (.cells cs t)) := by
   cases hq : P.info? t with
   | none => rw [hq] at hz; simp at hz
   | some i =>
    rw [hq] at hz
    simp at hz
    simp [Instr.alloc, zeroValue, typeInfo, hq, hz, newVar, Value.cells, go_sem]
  unfold Oper.wp execOp
  simp only [hop, Sem.run_bind, hr, Result.andThen_ok, Sem.run_pure]
  have h0 := (HS.nil w).alloc cs t n f hn hc
  have hbw := h0.out (by simp)
  exact ⟨_, none, rfl, ⟨w.heap.size, rfl, lT hb hbel.size, h0.row 0 rfl⟩, ⟨hbw.os, hbw.tape, hbw.output, hbw.size, fun k hk _ => hbw.block k hk⟩, (fun b hb => by cases hb), (fun b hb => by injection hb with hb; subst hb; exact .inl lR)⟩
end
namespace ShufLawOps
section
variable {P : Program}
theorem zjr {ops : Array Oper} {rest : List Oper} {o : Oper} {a : Act} {w w0 : World} {Q : Exit → Act → World → Prop} {rows : List RowSpec} (hgd : o.guard = none) (ty : TypeId) (x y : Operand) (ho : o.op = .store ty x y) (h : HS w0 w rows) (k : Nat) {b : Nat} {t : TypeId} {n : Nat} {f : Nat → Value} (hk : rows[k]? = some ⟨b, t, n, f⟩) (off : Nat) (v : Value)
    (hst : ∀ (w : World) (ad : Addr) (u : Value), w.cell? ad = some u → w.frozen? ad = false → (Instr.storeAt ty (.pointer (some ad)) v).run P w = .ok () (w.setCell ad v)) (hx : a.eval x = .pointer (some ⟨b, off, none⟩)) (hy : a.eval y = v) (hfit : off < n)
    (g : Nat → Value) (hg : ∀ j, j < n → (if j = off then v else f j) = g j)
    (hK : ∀ w', HS w0 w' (rows.set k ⟨b, t, n, g⟩) → w.grownBy w' (some b) → wpList P ops Q rest (a.put o.dst undef) w') : wpList P ops Q (o :: rest) a w :=
 wpList_plain hgd fun _ hK' => by
  have hrun := hst w ⟨b, off, none⟩ _ (h.cell k off hk hfit) (h.frozen k off hk)
  unfold Oper.wp execOp
  simp only [ho, hx, hy, Sem.run_bind, hrun, Result.andThen_ok, Sem.run_pure]
  refine hK' _ _ (hK _ ?_ (zbv (World.grownBy.refl _ _) (.inl rfl) _))
  have h1 := (h.set k off hk v).congr k (g := g) (b := b) (t := t) (n := n) (f := fun j => if j = off then v else f j) (by
   obtain ⟨hk', _⟩ := List.getElem?_eq_some_iff.1 hk
   rw [List.getElem?_set]; simp [hk']) hg
  rwa [List.set_set] at h1
end
theorem stU (m : Int) (w : World) (ad : Addr) (u : Value) (h : w.cell? ad = some u) (hf : w.frozen? ad = false) : (Instr.storeAt 22 (.pointer (some ad)) (.int .u64 m)).run Tryd.prog w = .ok () (w.setCell ad (.int .u64 m)) := by
 simp [go_sem, h, hf]
end ShufLawOps
namespace PickDraw
theorem za3 {P : Program} (w : World) (ad : Addr) (ty e : TypeId) (v : Value) (h : w.cell? ad = some v) (hu : P.underlying ty = some (.slice e)) : (Instr.loadAt ty (.pointer (some ad))).run P w = .ok v w := by
 simp only [Instr.loadAt, Instr.sureAddr, Sem.run_bind, Sem.run_pure, Result.andThen]
 have hagg : (isAgg ty).run P w = .ok false w := by
  unfold isAgg
  rw [Sem.run_bind, run_underlying hu w]
  rfl
 simp [loadVar, Sem.run_bind, hagg, h]
section
variable {P : Program}
theorem zkj {ops : Array Oper} {rest : List Oper} {o : Oper} {a : Act} {w w0 : World} {Q : Exit → Act → World → Prop} {rows : List RowSpec} (hgd : o.guard = none) (ty : TypeId) (x y : Operand) (ho : o.op = .store ty x y) (h : HS w0 w rows) (k : Nat) {b : Nat} {t : TypeId} {n : Nat} {f : Nat → Value} (hk : rows[k]? = some ⟨b, t, n, f⟩)
    (g : Nat → Value) (hx : a.eval x = .pointer (some ⟨b, 0, none⟩)) (hy : a.eval y = .agg (arr n g)) (hi : (P.info? ty).map (·.size) = some n) (h1 : ∀ i, i < n → (g i).oneCell' = true)
    (hK : ∀ w', HS w0 w' (rows.set k ⟨b, t, n, g⟩) → w.grownBy w' (some b) → wpList P ops Q rest (a.put o.dst undef) w') : wpList P ops Q (o :: rest) a w :=
 zcb hgd ty x y ho (h.row k hk) (arr n g) hx hy (zam _ _) hi (fun i hi => ⟨_, zaq _ _ i hi, h1 i hi⟩) (hK _ (h.setRow k hk (arr n g) (zam _ _) g (fun i hi => zaq _ _ i hi)) ⟨rfl, rfl, rfl, by rw [zec]; exact Nat.le_refl _, fun i _ hne => by
  unfold World.setRow
  have : ¬ b = i := fun e => hne (by rw [e])
  simp [Array.getElem?_modify, this]⟩)
end
end PickDraw
structure Chg (S : Nat → Prop) (w w' : World) : Prop where
 os : w'.os = w.os
 tape : w'.tape = w.tape
 output : w'.output = w.output
 size : w.heap.size ≤ w'.heap.size
 block : ∀ k, k < w.heap.size → ¬ S k → w'.heap[k]? = w.heap[k]?
section
variable {S S' : Nat → Prop} {w w1 w' : World}
theorem Chg.refl (S : Nat → Prop) (w : World) : Chg S w w := ⟨rfl, rfl, rfl, Nat.le_refl _, fun _ _ _ => rfl⟩
theorem Chg.trans (h : Chg S w w1) (k : Chg S' w1 w') (hs : ∀ b, S' b → S b ∨ w.heap.size ≤ b) : Chg S w w' :=
 ⟨k.os.trans h.os, k.tape.trans h.tape, k.output.trans h.output, lT h.size k.size, fun b hb hn => (k.block b (Nat.lt_of_lt_of_le hb h.size) (fun h1 => by
  rcases hs b h1 with h2 | h2
  ·exact hn h2
  ·omega)).trans (h.block b hb hn)⟩
theorem Chg.mono (h : Chg S w w') (hs : ∀ b, b < w.heap.size → S b → S' b) : Chg S' w w' :=
 ⟨h.os, h.tape, h.output, h.size, fun b hb hn => h.block b hb (fun h1 => hn (hs b hb h1))⟩
theorem Chg.of_below (h : Below w.heap.size w w') : Chg S w w' := ⟨h.os, h.tape, h.output, h.size, fun b hb _ => h.block b hb⟩
theorem Chg.of_grown {r : Option Nat} (h : w.grownBy w' r) (hs : ∀ b, r = some b → S b ∨ w.heap.size ≤ b) : Chg S w w' :=
 ⟨h.os, h.tape, h.output, h.size, fun b hb hn => h.block b hb (fun e => by
  rcases hs b e.symm with h1 | h1
  ·exact hn h1
  ·omega)⟩
theorem Chg.below (h : Chg S w w') {B : Nat} (hB : B ≤ w.heap.size) (hs : ∀ b, S b → B ≤ b) : Below B w w' :=
 ⟨h.os, h.tape, h.output, h.size, fun b hb => h.block b (by omega) (fun h1 => by have := hs b h1; omega)⟩
theorem Chg.row (h : Chg S w w') {b : Nat} {t : TypeId} {n : Nat} {f : Nat → Value} (hr : w.rowIs b t n f) (hn : ¬ S b) : w'.rowIs b t n f := hr.of_block (h.block _ hr.lt hn)
theorem OwnZ.blk {base z n c : Nat} {e : TypeId} {A : Option Addr} {f : Nat → Value} (h : OwnZ w base e z A n c f) (hk : ∀ ad, A = some ad → w'.heap[ad.block]? = w.heap[ad.block]?) : OwnZ w' base e z A n c f := by
 obtain ⟨h1, h2⟩ := h
 refine ⟨h1, ?_⟩
 rcases h2 with h2 | ⟨g, cap, cur, hv, hg, hh, r⟩
 ·exact .inl h2
 ·refine .inr ⟨g, cap, cur, hv, hg, ?_, r⟩
  have hA : A = some ⟨g, 0, none⟩ := by injection hv
  rw [hk _ hA]
  exact hh
theorem Chg.own (h : Chg S w w') {base z n c : Nat} {e : TypeId} {A : Option Addr} {f : Nat → Value} (ho : OwnZ w base e z A n c f) (hn : ∀ ad, A = some ad → ¬ S ad.block) : OwnZ w' base e z A n c f :=
 ho.blk fun ad e => h.block _ (ho.base_le ad e).2 (hn ad e)
end
def OnA (A : Option Addr) (b : Nat) : Prop := ∃ ad : Addr, A = some ad ∧ ad.block = b
theorem OwnZ.on {w : World} {base z n c : Nat} {e : TypeId} {A : Option Addr} {f : Nat → Value} (h : OwnZ w base e z A n c f) {b : Nat} (hb : OnA A b) : base ≤ b ∧ b < w.heap.size := by
 obtain ⟨ad, e, rfl⟩ := hb; exact h.base_le ad e
end Go.Proofs.YtomilckcgmhfcaaDoor
