/- Lemmas that the proof stands on. -/
import Derived.Test.YtomilckcgmhfcaaDoorGLit6
namespace Go.Proofs.YtomilckcgmhfcaaDoor
set_option maxRecDepth 40000
set_option maxHeartbeats 64000000
open Go.RowKit

theorem zxa (x : W32) (w : World) : Calls Tryd.prog 105 #[wv x, .int .u64 2] w fun e w' => e = .returned (wv (rotr x 2)) ∧ w = w' := by
 have h1 := Hd (show (x.toNat : Int) * (1073741824 : Int) % (4294967296 : Int) = (((x <<< 30).toNat : Nat) : Int) from zb0 x 30)
 have h2 := Hd (show (x.toNat : Int) / (4 : Int) = (((x >>> 2).toNat : Nat) : Int) from zbz x 2)
 have h3 := Hd (zcg (x >>> 2) (x <<< 30))
 go_enter Tryd.func105, Tryd.ntmps105
 go_wp2
 go_ret
 exact ⟨zb7 (by rw [h1.out, h2.out, h3.out]; rfl), rfl⟩

theorem zxb (x : W32) (w : World) : Calls Tryd.prog 105 #[wv x, .int .u64 6] w fun e w' => e = .returned (wv (rotr x 6)) ∧ w = w' := by
 have h1 := Hd (show (x.toNat : Int) * (67108864 : Int) % (4294967296 : Int) = (((x <<< 26).toNat : Nat) : Int) from zb0 x 26)
 have h2 := Hd (show (x.toNat : Int) / (64 : Int) = (((x >>> 6).toNat : Nat) : Int) from zbz x 6)
 have h3 := Hd (zcg (x >>> 6) (x <<< 26))
 go_enter Tryd.func105, Tryd.ntmps105
 go_wp2
 go_ret
 exact ⟨zb7 (by rw [h1.out, h2.out, h3.out]; rfl), rfl⟩

theorem zxc (x : W32) (w : World) : Calls Tryd.prog 105 #[wv x, .int .u64 7] w fun e w' => e = .returned (wv (rotr x 7)) ∧ w = w' := by
 have h1 := Hd (show (x.toNat : Int) * (33554432 : Int) % (4294967296 : Int) = (((x <<< 25).toNat : Nat) : Int) from zb0 x 25)
 have h2 := Hd (show (x.toNat : Int) / (128 : Int) = (((x >>> 7).toNat : Nat) : Int) from zbz x 7)
 have h3 := Hd (zcg (x >>> 7) (x <<< 25))
 go_enter Tryd.func105, Tryd.ntmps105
 go_wp2
 go_ret
 exact ⟨zb7 (by rw [h1.out, h2.out, h3.out]; rfl), rfl⟩

theorem zvu (x : W32) (w : World) : Calls Tryd.prog 105 #[wv x, .int .u64 11] w fun e w' => e = .returned (wv (rotr x 11)) ∧ w = w' := by
 have h1 := Hd (show (x.toNat : Int) * (2097152 : Int) % (4294967296 : Int) = (((x <<< 21).toNat : Nat) : Int) from zb0 x 21)
 have h2 := Hd (show (x.toNat : Int) / (2048 : Int) = (((x >>> 11).toNat : Nat) : Int) from zbz x 11)
 have h3 := Hd (zcg (x >>> 11) (x <<< 21))
 go_enter Tryd.func105, Tryd.ntmps105
 go_wp2
 go_ret
 exact ⟨zb7 (by rw [h1.out, h2.out, h3.out]; rfl), rfl⟩

theorem zvv (x : W32) (w : World) : Calls Tryd.prog 105 #[wv x, .int .u64 13] w fun e w' => e = .returned (wv (rotr x 13)) ∧ w = w' := by
 have h1 := Hd (show (x.toNat : Int) * (524288 : Int) % (4294967296 : Int) = (((x <<< 19).toNat : Nat) : Int) from zb0 x 19)
 have h2 := Hd (show (x.toNat : Int) / (8192 : Int) = (((x >>> 13).toNat : Nat) : Int) from zbz x 13)
 have h3 := Hd (zcg (x >>> 13) (x <<< 19))
 go_enter Tryd.func105, Tryd.ntmps105
 go_wp2
 go_ret
 exact ⟨zb7 (by rw [h1.out, h2.out, h3.out]; rfl), rfl⟩

theorem zvw (x : W32) (w : World) : Calls Tryd.prog 105 #[wv x, .int .u64 17] w fun e w' => e = .returned (wv (rotr x 17)) ∧ w = w' := by
 have h1 := Hd (show (x.toNat : Int) * (32768 : Int) % (4294967296 : Int) = (((x <<< 15).toNat : Nat) : Int) from zb0 x 15)
 have h2 := Hd (show (x.toNat : Int) / (131072 : Int) = (((x >>> 17).toNat : Nat) : Int) from zbz x 17)
 have h3 := Hd (zcg (x >>> 17) (x <<< 15))
 go_enter Tryd.func105, Tryd.ntmps105
 go_wp2
 go_ret
 exact ⟨zb7 (by rw [h1.out, h2.out, h3.out]; rfl), rfl⟩

theorem zvx (x : W32) (w : World) : Calls Tryd.prog 105 #[wv x, .int .u64 18] w fun e w' => e = .returned (wv (rotr x 18)) ∧ w = w' := by
 have h1 := Hd (show (x.toNat : Int) * (16384 : Int) % (4294967296 : Int) = (((x <<< 14).toNat : Nat) : Int) from zb0 x 14)
 have h2 := Hd (show (x.toNat : Int) / (262144 : Int) = (((x >>> 18).toNat : Nat) : Int) from zbz x 18)
 have h3 := Hd (zcg (x >>> 18) (x <<< 14))
 go_enter Tryd.func105, Tryd.ntmps105
 go_wp2
 go_ret
 exact ⟨zb7 (by rw [h1.out, h2.out, h3.out]; rfl), rfl⟩

theorem zvy (x : W32) (w : World) : Calls Tryd.prog 105 #[wv x, .int .u64 19] w fun e w' => e = .returned (wv (rotr x 19)) ∧ w = w' := by
 have h1 := Hd (show (x.toNat : Int) * (8192 : Int) % (4294967296 : Int) = (((x <<< 13).toNat : Nat) : Int) from zb0 x 13)
 have h2 := Hd (show (x.toNat : Int) / (524288 : Int) = (((x >>> 19).toNat : Nat) : Int) from zbz x 19)
 have h3 := Hd (zcg (x >>> 19) (x <<< 13))
 go_enter Tryd.func105, Tryd.ntmps105
 go_wp2
 go_ret
 exact ⟨zb7 (by rw [h1.out, h2.out, h3.out]; rfl), rfl⟩

theorem zvz (x : W32) (w : World) : Calls Tryd.prog 105 #[wv x, .int .u64 22] w fun e w' => e = .returned (wv (rotr x 22)) ∧ w = w' := by
 have h1 := Hd (show (x.toNat : Int) * (1024 : Int) % (4294967296 : Int) = (((x <<< 10).toNat : Nat) : Int) from zb0 x 10)
 have h2 := Hd (show (x.toNat : Int) / (4194304 : Int) = (((x >>> 22).toNat : Nat) : Int) from zbz x 22)
 have h3 := Hd (zcg (x >>> 22) (x <<< 10))
 go_enter Tryd.func105, Tryd.ntmps105
 go_wp2
 go_ret
 exact ⟨zb7 (by rw [h1.out, h2.out, h3.out]; rfl), rfl⟩

theorem zv0 (x : W32) (w : World) : Calls Tryd.prog 105 #[wv x, .int .u64 25] w fun e w' => e = .returned (wv (rotr x 25)) ∧ w = w' := by
 have h1 := Hd (show (x.toNat : Int) * (128 : Int) % (4294967296 : Int) = (((x <<< 7).toNat : Nat) : Int) from zb0 x 7)
 have h2 := Hd (show (x.toNat : Int) / (33554432 : Int) = (((x >>> 25).toNat : Nat) : Int) from zbz x 25)
 have h3 := Hd (zcg (x >>> 25) (x <<< 7))
 go_enter Tryd.func105, Tryd.ntmps105
 go_wp2
 go_ret
 exact ⟨zb7 (by rw [h1.out, h2.out, h3.out]; rfl), rfl⟩

section
variable {P : Program} {ops : Array Oper} {B : Nat} {w0 : World} {o : Oper} {lk : Tmp → SF} {ty rt : TypeId}
theorem zkt (a c d : Nat) {xo yo : Operand} (he : a = d + c) (hb : a ≤ 9223372036854775807) (hg : o.guard = none) (hop : o.op = .binOp .sub ty xo yo rt) (hx : OpK lk xo (.int .i64 (a : Int))) (hy : OpK lk yo (.int .i64 (c : Int))) : opOb P ops B w0 o (sI (.int .i64 (d : Int))) lk := by
 rw [show (d : Int) = (a : Int) - (c : Int) by omega]; exact zpl a c (by omega) hg hop hx hy
theorem ztx (x : W32) : bits .xor .u32 (if IntKind.u32.signed = true then -1 else IntKind.u32.max) (x.toNat : Int) = (((~~~x).toNat : Nat) : Int) := by
 have h : bits .xor .u32 ((BitVec.allOnes 32).toNat : Int) (x.toNat : Int) = _ := zih (BitVec.allOnes 32) x
 rw [BitVec.allOnes_xor] at h
 exact h
theorem zrv (x : W32) {xo : Operand} (hg : o.guard = none) (hop : o.op = .unOp .xor ty xo) (hx : OpK lk xo (wv x)) : opOb P ops B w0 o (sI (wv (~~~x))) lk :=
 zbw _ hg fun a w _ hf => by
  have h1 := hx.eval hf (by rw [hop]; simp [Op.operands])
  unfold execOp
  rw [hop]
  simp only [h1, wv]
  rw [← ztx]
  simp [go_sem]
end
theorem zdr (w : World) (g o i : Nat) (hi : i < 8) : (Instr.indexAt 113 (.pointer (some ⟨g, o, none⟩)) (.int .i64 (i : Int))).run Tryd.prog w = .ok (.pointer (some ⟨g, o + i, none⟩)) w := by
 have hx : (i : Int) < 8 := by omega
 simp [go_sem, hx]

abbrev agg8 (H : Nat → W32) : Value := .agg #[wv (H 0), wv (H 1), wv (H 2), wv (H 3), wv (H 4), wv (H 5), wv (H 6), wv (H 7)]

theorem zeg {w : World} {b : Nat} {p : Addr} {u : Value} (h : b < p.block) : Below (b + 1) w (w.setCell p u) := (Below.refl _ _).setCell h _
theorem zhk (w : World) (t : TypeId) (n : Nat) (v : Value) : (w.alloc (.cells (Array.replicate n v) t)).rowIs w.heap.size t (Array.replicate n v).size (fun _ => v) :=
 World.rowIs_alloc w _ _ (fun _ => v) (fun i hi => by simp at hi; simp [hi])

set_option maxRecDepth 100000 in
theorem zpw (n c B : Nat) (A : Option Addr) (H : Nat → W32) (m : Nat → Nat) (w : World)
    (hm : ∀ i, m i < 256) (hb : Rd w B A n (fun i => .int .u8 ((m i : Nat) : Int))) (hB : B ≤ w.heap.size) (hn : 64 ≤ n) (hn2 : n ≤ 140737488355328)
    (hK0 : ∀ i, i < 64 → w.cell? ⟨3, i, none⟩ = some (wv (kw i))) :
    Calls Tryd.prog 104 #[agg8 H, .slice A n c] w fun e w' => e = .returned (agg8 (comp H m)) ∧ Below w.heap.size w w' := by
 have hG0 : 3 < w.heap.size := by have h := hK0 0 (by omega); have := zez h; exact this
 have HK := Hd hK0
 clear hK0
 go_enter Tryd.func104, Tryd.ntmps104
 go_wp2_with fail
 go_loopw [6] (fun i wr => ∃ k : Nat, k ≤ 16 ∧ i = .int .i64 k ∧ wr.rowIs (w.heap.size + 2) 144 64 (fun j => if j < k then wv (word m j) else wv 0) ∧ wr.rowIs w.heap.size 113 8 (fun j => wv (H j)) ∧ (∃ z, wr.rowIs (w.heap.size + 1) 113 8 z) ∧ Below w.heap.size w wr) (fun i _ => 16 - (intOf i).toNat)
 case atStart =>
  have r1 := World.rowIs_alloc w #[wv (H 0), wv (H 1), wv (H 2), wv (H 3), wv (H 4), wv (H 5), wv (H 6), wv (H 7)] 113 (fun j => wv (H j)) (fun i hi => by
   have hi : i < 8 := hi
   match i, hi with
   | 0, _ | 1, _ | 2, _ | 3, _ | 4, _ | 5, _ | 6, _ | 7, _ => rfl
   | n + 8, h => omega)
  have r2 := zhk (w.alloc (.cells #[wv (H 0), wv (H 1), wv (H 2), wv (H 3), wv (H 4), wv (H 5), wv (H 6), wv (H 7)] 113)) 113 8 (wv 0)
  have r3 := zhk ((w.alloc (.cells #[wv (H 0), wv (H 1), wv (H 2), wv (H 3), wv (H 4), wv (H 5), wv (H 6), wv (H 7)] 113)).alloc (.cells (Array.replicate 8 (wv 0)) 113)) 144 64 (wv 0)
  have e1 : (w.alloc (.cells #[wv (H 0), wv (H 1), wv (H 2), wv (H 3), wv (H 4), wv (H 5), wv (H 6), wv (H 7)] 113)).heap.size = w.heap.size + 1 := zgw _ _
  have e2 : ((w.alloc (.cells #[wv (H 0), wv (H 1), wv (H 2), wv (H 3), wv (H 4), wv (H 5), wv (H 6), wv (H 7)] 113)).alloc (.cells (Array.replicate 8 (wv 0)) 113)).heap.size = w.heap.size + 2 := by rw [zgw, e1]
  rw [e1] at r2
  rw [e2] at r3
  have B2 : Below (w.heap.size + 1) (w.alloc (.cells #[wv (H 0), wv (H 1), wv (H 2), wv (H 3), wv (H 4), wv (H 5), wv (H 6), wv (H 7)] 113)) _ := (Below.refl _ _).alloc (Nat.le_of_eq e1.symm) (.cells (Array.replicate 8 (wv 0)) 113)
  have B3 : Below (w.heap.size + 2) ((w.alloc (.cells #[wv (H 0), wv (H 1), wv (H 2), wv (H 3), wv (H 4), wv (H 5), wv (H 6), wv (H 7)] 113)).alloc (.cells (Array.replicate 8 (wv 0)) 113)) _ := (Below.refl _ _).alloc (Nat.le_of_eq e2.symm) (.cells (Array.replicate 64 (wv 0)) 144)
  have B1 : Below w.heap.size w _ := (Below.refl _ _).alloc lR (.cells #[wv (H 0), wv (H 1), wv (H 2), wv (H 3), wv (H 4), wv (H 5), wv (H 6), wv (H 7)] 113)
  exact ⟨0, Nat.zero_le _, rfl, r3.congr (fun j _ => by rw [if_neg (by omega)]), zaj (zaj r1 B2 (by omega)) B3 (by omega), ⟨_, zaj r2 B3 (by omega)⟩, (B1.trans (B2.mono (by omega))).trans (B3.mono (by omega))⟩
 case round =>
  obtain ⟨k, hk, rfl, hW, hH, ⟨z, hz⟩, hbel⟩ := hrel
  by_cases hk16 : k < 16
  ·have hr := hb.below (hbel.mono hB)
   obtain ⟨ad, hA, hbl, c0⟩ := hr.at_ (k := 4 * k) (by omega)
   subst hA
   have C0 := Hd c0
   have C1 := Hd (hr.cell_ (k := 4 * k + 1) (by omega))
   have C2 := Hd (hr.cell_ (k := 4 * k + 2) (by omega))
   have C3 := Hd (hr.cell_ (k := 4 * k + 3) (by omega))
   have hadB : ad.block < wr.heap.size := Nat.lt_of_lt_of_le hbl (lT hB hbel.size)
   have b0 := hm (4 * k)
   have b1 := hm (4 * k + 1)
   have b2 := hm (4 * k + 2)
   have b3 := hm (4 * k + 3)
   have HW := Hd hW
   have HH := Hd hH
   have Hz := Hd hz
   have Hbel := Hd hbel
   clear hW hbel hb hm hr c0 hH hz
   go_wp2_with fail
   refine zc7 (l := [_, _, _, _, _, _, _, _, _, _, _, _, _, _, _, _, _, _, _, _, _, _, _, _, _, _, _, _, _, _, _, _, _, _, _]) (B := wr.heap.size) (w0 := wr) [sI (.int .i64 ((k : Nat) : Int)), sI (.slice (some ad) n c), sI (.int .i64 ((k : Nat) : Int)), sI (.int .i64 ((4 * k : Nat) : Int)), sI (.pointer (some (ad.add (4 * k)))), sI (.int .u8 ((m (4 * k) : Nat) : Int)), sI (wv (BitVec.ofNat 32 (m (4 * k)))), sI (wv ((BitVec.ofNat 32 (m (4 * k))) <<< (24 : Nat))), sI (.slice (some ad) n c), sI (.int .i64 ((k : Nat) : Int)), sI (.int .i64 ((4 * k : Nat) : Int)), sI (.int .i64 (((4 * k) + (1) : Nat) : Int)), sI (.pointer (some (ad.add (4 * k + 1)))), sI (.int .u8 ((m (4 * k + 1) : Nat) : Int)), sI (wv (BitVec.ofNat 32 (m (4 * k + 1)))), sI (wv ((BitVec.ofNat 32 (m (4 * k + 1))) <<< (16 : Nat))), sI (wv (((BitVec.ofNat 32 (m (4 * k))) <<< (24 : Nat)) ||| ((BitVec.ofNat 32 (m (4 * k + 1))) <<< (16 : Nat)))), sI (.slice (some ad) n c), sI (.int .i64 ((k : Nat) : Int)), sI (.int .i64 ((4 * k : Nat) : Int)), sI (.int .i64 (((4 * k) + (2) : Nat) : Int)), sI (.pointer (some (ad.add (4 * k + 2)))), sI (.int .u8 ((m (4 * k + 2) : Nat) : Int)), sI (wv (BitVec.ofNat 32 (m (4 * k + 2)))), sI (wv ((BitVec.ofNat 32 (m (4 * k + 2))) <<< (8 : Nat))), sI (wv ((((BitVec.ofNat 32 (m (4 * k))) <<< (24 : Nat)) ||| ((BitVec.ofNat 32 (m (4 * k + 1))) <<< (16 : Nat))) ||| ((BitVec.ofNat 32 (m (4 * k + 2))) <<< (8 : Nat)))), sI (.slice (some ad) n c), sI (.int .i64 ((k : Nat) : Int)), sI (.int .i64 ((4 * k : Nat) : Int)), sI (.int .i64 (((4 * k) + (3) : Nat) : Int)), sI (.pointer (some (ad.add (4 * k + 3)))), sI (.int .u8 ((m (4 * k + 3) : Nat) : Int)), sI (wv (BitVec.ofNat 32 (m (4 * k + 3)))), sI (wv (((((BitVec.ofNat 32 (m (4 * k))) <<< (24 : Nat)) ||| ((BitVec.ofNat 32 (m (4 * k + 1))) <<< (16 : Nat))) ||| ((BitVec.ofNat 32 (m (4 * k + 2))) <<< (8 : Nat))) ||| (BitVec.ofNat 32 (m (4 * k + 3))))), sI (.pointer (some ⟨w.heap.size + 2, 0 + (k), none⟩))] (by kernel_rfl) (by kernel_rfl) rfl lR (Below.refl _ _) ⟨?_, ?_, ?_, ?_, ?_, ?_, ?_, ?_, ?_, ?_, ?_, ?_, ?_, ?_, ?_, ?_, ?_, ?_, ?_, ?_, ?_, ?_, ?_, ?_, ?_, ?_, ?_, ?_, ?_, ?_, ?_, ?_, ?_, ?_, ?_, trivial⟩ ?_
   ·exact (zaa _ rfl (.inl rfl) rfl)
   ·exact (zaa _ rfl (.inl rfl) rfl)
   ·exact (zaa _ rfl (.inl rfl) rfl)
   ·exact zbn _ _ (by omega) rfl rfl (OpK.const) (oT rfl)
   ·exact zak rfl rfl (oT rfl) (oT rfl) (fun w => zco w ad n c (4 * k) (by omega))
   ·exact zad rfl rfl (oT rfl) (fun w' hb => zel w' _ _ ((hb.cell (by rw [za7]; exact hadB)).trans C0.out))
   ·exact zdp _ b0 Ty5 Ty112 rfl rfl (oT rfl)
   ·exact zey _ 24 (by omega) rfl rfl (oT rfl)
   ·exact (zaa _ rfl (.inl rfl) rfl)
   ·exact (zaa _ rfl (.inl rfl) rfl)
   ·exact zbn _ _ (by omega) rfl rfl (OpK.const) (oT rfl)
   ·exact zcc _ _ (by omega) rfl rfl (oT rfl) (OpK.const)
   ·exact zak rfl rfl (oT rfl) (oT rfl) (fun w => zco w ad n c (4 * k + 1) (by omega))
   ·exact zad rfl rfl (oT rfl) (fun w' hb => zel w' _ _ ((hb.cell (by rw [za7]; exact hadB)).trans C1.out))
   ·exact zdp _ b1 Ty5 Ty112 rfl rfl (oT rfl)
   ·exact zey _ 16 (by omega) rfl rfl (oT rfl)
   ·exact zfw _ _ rfl rfl (oT rfl) (oT rfl)
   ·exact (zaa _ rfl (.inl rfl) rfl)
   ·exact (zaa _ rfl (.inl rfl) rfl)
   ·exact zbn _ _ (by omega) rfl rfl (OpK.const) (oT rfl)
   ·exact zcc _ _ (by omega) rfl rfl (oT rfl) (OpK.const)
   ·exact zak rfl rfl (oT rfl) (oT rfl) (fun w => zco w ad n c (4 * k + 2) (by omega))
   ·exact zad rfl rfl (oT rfl) (fun w' hb => zel w' _ _ ((hb.cell (by rw [za7]; exact hadB)).trans C2.out))
   ·exact zdp _ b2 Ty5 Ty112 rfl rfl (oT rfl)
   ·exact zey _ 8 (by omega) rfl rfl (oT rfl)
   ·exact zfw _ _ rfl rfl (oT rfl) (oT rfl)
   ·exact (zaa _ rfl (.inl rfl) rfl)
   ·exact (zaa _ rfl (.inl rfl) rfl)
   ·exact zbn _ _ (by omega) rfl rfl (OpK.const) (oT rfl)
   ·exact zcc _ _ (by omega) rfl rfl (oT rfl) (OpK.const)
   ·exact zak rfl rfl (oT rfl) (oT rfl) (fun w => zco w ad n c (4 * k + 3) (by omega))
   ·exact zad rfl rfl (oT rfl) (fun w' hb => zel w' _ _ ((hb.cell (by rw [za7]; exact hadB)).trans C3.out))
   ·exact zdp _ b3 Ty5 Ty112 rfl rfl (oT rfl)
   ·exact zfw _ _ rfl rfl (oT rfl) (oT rfl)
   ·exact zak rfl rfl (oT rfl) (oT rfl) (fun w => zd3 w _ _ (k) (by omega))
   ·intro w' hb
    simp only [fin, sI, forall_eq]
    simp only [pcX]
    have hW' := zaj HW.out hb HW.out.lt
    refine zdf (v := wv (word m k)) rfl rfl rfl rfl (zf1 w' _ _ _ (by rw [Nat.zero_add]; exact hW'.cell (i := k) (by omega)) (hW'.frozen _)) ?_
    go_wp2_with fail
    go_roundw
    case rel =>
     have hbel := Hbel.out.trans (hb.mono Hbel.out.size)
     refine ⟨k + 1, by omega, by go_num, (hW'.set k _).congr (fun j _ => ?_), zaj (zaj HH.out hb HH.out.lt) (zeg (show w.heap.size < w.heap.size + 2 by omega)) (Nat.lt_succ_self _), ⟨z, zaj (zaj Hz.out hb Hz.out.lt) (zeg (show w.heap.size + 1 < w.heap.size + 2 by omega)) (Nat.lt_succ_self _)⟩, hbel.setCell (show w.heap.size ≤ w.heap.size + 2 by omega) _⟩
     by_cases e : j = k
     ·subst e; rw [if_pos rfl, if_pos (by omega)]
     ·rw [if_neg e]
      by_cases e2 : j < k
      ·rw [if_pos e2, if_pos (by omega)]
      ·rw [if_neg e2, if_neg (by omega)]
    case measure => simp [intOf]; omega
  ·obtain rfl : k = 16 := by omega
   have HW := Hd (show wr.rowIs (w.heap.size + 2) 144 64 (fun j => if j < 16 then wv (Wt (word m) j) else wv 0) from hW.congr (fun j _ => by
    by_cases e : j < 16
    ·rw [if_pos e, if_pos e, zte _ _ e]
    ·rw [if_neg e, if_neg e]))
   have HH := Hd hH
   have Hz := Hd (show ∃ z, wr.rowIs (w.heap.size + 1) 113 8 z from ⟨z, hz⟩)
   have Hbel := Hd hbel
   clear hW hbel hb hm hH hz
   go_wp2_with fail
   go_loopw [7] (fun i wr => ∃ j : Nat, j ≤ 48 ∧ i = .int .i64 ((j + 16 : Nat) : Int) ∧ wr.rowIs (w.heap.size + 2) 144 64 (fun i => if i < j + 16 then wv (Wt (word m) i) else wv 0) ∧ wr.rowIs w.heap.size 113 8 (fun j => wv (H j)) ∧ (∃ z, wr.rowIs (w.heap.size + 1) 113 8 z) ∧ Below w.heap.size w wr) (fun i _ => 64 - (intOf i).toNat)
   case atStart => exact ⟨0, by omega, rfl, HW.out, HH.out, Hz.out, Hbel.out⟩
   case round =>
    clear HW HH Hz Hbel
    obtain ⟨j, hj, rfl, hW, hH, ⟨z, hz⟩, hbel⟩ := hrel
    by_cases hj48 : j < 48
    ·have hlow : ∀ e, e < j + 16 → wr.cell? ⟨w.heap.size + 2, 0 + e, none⟩ = some (wv (Wt (word m) e)) := fun e he => by
      rw [Nat.zero_add, hW.cell (by omega), if_pos he]
     have c1 : wr.cell? ⟨w.heap.size + 2, j + 1, none⟩ = some (wv (Wt (word m) (j + 1))) := by have := hlow (j + 1) (by omega); rwa [Nat.zero_add] at this
     have c14 : wr.cell? ⟨w.heap.size + 2, j + 14, none⟩ = some (wv (Wt (word m) (j + 14))) := by have := hlow (j + 14) (by omega); rwa [Nat.zero_add] at this
     have hWB := hW.lt
     have HW := Hd hW
     have HH := Hd hH
     have Hz := Hd hz
     have Hbel := Hd hbel
     have Hlow := Hd hlow
     clear hW hbel hH hz hlow
     go_wp2_with fail
     have hlow := Hlow.out
     refine zc7 (l := [_, _, _, _, _, _, _, _, _, _, _, _, _, _, _, _, _, _, _, _, _, _, _, _, _, _, _, _, _]) (B := wr.heap.size) (w0 := wr) [sI (.int .i64 ((j + 16 : Nat) : Int)), sI (wv (Wt (word m) (j + 14))), sI (wv (rotr (Wt (word m) (j + 14)) 17)), sI (wv (Wt (word m) (j + 14))), sI (wv (rotr (Wt (word m) (j + 14)) 19)), sI (wv ((rotr (Wt (word m) (j + 14)) 17) ^^^ (rotr (Wt (word m) (j + 14)) 19))), sI (wv (Wt (word m) (j + 14))), sI (wv ((Wt (word m) (j + 14)) >>> (10 : Nat))), sI (wv (((rotr (Wt (word m) (j + 14)) 17) ^^^ (rotr (Wt (word m) (j + 14)) 19)) ^^^ ((Wt (word m) (j + 14)) >>> (10 : Nat)))), sI (.int .i64 ((j + 16 : Nat) : Int)), sI (.int .i64 ((j + 9 : Nat) : Int)), sI (.pointer (some ⟨w.heap.size + 2, 0 + (j + 9), none⟩)), sI (wv (Wt (word m) (j + 9))), sI (wv ((((rotr (Wt (word m) (j + 14)) 17) ^^^ (rotr (Wt (word m) (j + 14)) 19)) ^^^ ((Wt (word m) (j + 14)) >>> (10 : Nat))) + (Wt (word m) (j + 9)))), sI (wv (Wt (word m) (j + 1))), sI (wv (rotr (Wt (word m) (j + 1)) 7)), sI (wv (Wt (word m) (j + 1))), sI (wv (rotr (Wt (word m) (j + 1)) 18)), sI (wv ((rotr (Wt (word m) (j + 1)) 7) ^^^ (rotr (Wt (word m) (j + 1)) 18))), sI (wv (Wt (word m) (j + 1))), sI (wv ((Wt (word m) (j + 1)) >>> (3 : Nat))), sI (wv (((rotr (Wt (word m) (j + 1)) 7) ^^^ (rotr (Wt (word m) (j + 1)) 18)) ^^^ ((Wt (word m) (j + 1)) >>> (3 : Nat)))), sI (wv (((((rotr (Wt (word m) (j + 14)) 17) ^^^ (rotr (Wt (word m) (j + 14)) 19)) ^^^ ((Wt (word m) (j + 14)) >>> (10 : Nat))) + (Wt (word m) (j + 9))) + (((rotr (Wt (word m) (j + 1)) 7) ^^^ (rotr (Wt (word m) (j + 1)) 18)) ^^^ ((Wt (word m) (j + 1)) >>> (3 : Nat))))), sI (.int .i64 ((j + 16 : Nat) : Int)), sI (.int .i64 ((j : Nat) : Int)), sI (.pointer (some ⟨w.heap.size + 2, 0 + (j), none⟩)), sI (wv (Wt (word m) (j))), sI (wv ((((((rotr (Wt (word m) (j + 14)) 17) ^^^ (rotr (Wt (word m) (j + 14)) 19)) ^^^ ((Wt (word m) (j + 14)) >>> (10 : Nat))) + (Wt (word m) (j + 9))) + (((rotr (Wt (word m) (j + 1)) 7) ^^^ (rotr (Wt (word m) (j + 1)) 18)) ^^^ ((Wt (word m) (j + 1)) >>> (3 : Nat)))) + (Wt (word m) (j)))), sI (.pointer (some ⟨w.heap.size + 2, 0 + (j + 16), none⟩))] (by kernel_rfl) (by kernel_rfl) rfl lR (Below.refl _ _) ⟨?_, ?_, ?_, ?_, ?_, ?_, ?_, ?_, ?_, ?_, ?_, ?_, ?_, ?_, ?_, ?_, ?_, ?_, ?_, ?_, ?_, ?_, ?_, ?_, ?_, ?_, ?_, ?_, ?_, trivial⟩ ?_
     ·exact (zaa _ rfl (.inl rfl) rfl)
     ·exact (zaa _ rfl (.inl rfl) rfl)
     ·refine (zb9 rfl fun a w' hb hf => ?_)
      have h73 : a.tmps[73]?.getD undef = wv (Wt (word m) (j + 14)) := hf 73 List.mem_cons_self
      refine ⟨105, #[wv (Wt (word m) (j + 14)), .int .u64 17], ?_, (zvw _ _).mono fun e w'' ⟨he, hw⟩ => ⟨_, he, rfl, hw ▸ Below.refl _ _⟩⟩
      go_light
      simp [go_sem, h73]
     ·exact (zaa _ rfl (.inl rfl) rfl)
     ·refine (zb9 rfl fun a w' hb hf => ?_)
      have h75 : a.tmps[75]?.getD undef = wv (Wt (word m) (j + 14)) := hf 75 List.mem_cons_self
      refine ⟨105, #[wv (Wt (word m) (j + 14)), .int .u64 19], ?_, (zvy _ _).mono fun e w'' ⟨he, hw⟩ => ⟨_, he, rfl, hw ▸ Below.refl _ _⟩⟩
      go_light
      simp [go_sem, h75]
     ·exact zcl _ _ rfl rfl (oT rfl) (oT rfl)
     ·exact (zaa _ rfl (.inl rfl) rfl)
     ·exact zg1 _ 10 (by omega) rfl rfl (oT rfl)
     ·exact zcl _ _ rfl rfl (oT rfl) (oT rfl)
     ·exact (zaa _ rfl (.inl rfl) rfl)
     ·exact zkt (j + 16) 7 (j + 9) (by omega) (by omega) rfl rfl (oT rfl) OpK.const
     ·exact zak rfl rfl (oT rfl) (oT rfl) (fun w => zd3 w _ _ (j + 9) (by omega))
     ·exact zad rfl rfl (oT rfl) (fun w' hb => zbj w' _ _ ((hb.cell (p := ⟨w.heap.size + 2, 0 + (j + 9), none⟩) hWB).trans (hlow (j + 9) (by omega))))
     ·exact zck _ _ rfl rfl (oT rfl) (oT rfl)
     ·exact (zaa _ rfl (.inl rfl) rfl)
     ·refine (zb9 rfl fun a w' hb hf => ?_)
      have h86 : a.tmps[86]?.getD undef = wv (Wt (word m) (j + 1)) := hf 86 List.mem_cons_self
      refine ⟨105, #[wv (Wt (word m) (j + 1)), .int .u64 7], ?_, (zxc _ _).mono fun e w'' ⟨he, hw⟩ => ⟨_, he, rfl, hw ▸ Below.refl _ _⟩⟩
      go_light
      simp [go_sem, h86]
     ·exact (zaa _ rfl (.inl rfl) rfl)
     ·refine (zb9 rfl fun a w' hb hf => ?_)
      have h88 : a.tmps[88]?.getD undef = wv (Wt (word m) (j + 1)) := hf 88 List.mem_cons_self
      refine ⟨105, #[wv (Wt (word m) (j + 1)), .int .u64 18], ?_, (zvx _ _).mono fun e w'' ⟨he, hw⟩ => ⟨_, he, rfl, hw ▸ Below.refl _ _⟩⟩
      go_light
      simp [go_sem, h88]
     ·exact zcl _ _ rfl rfl (oT rfl) (oT rfl)
     ·exact (zaa _ rfl (.inl rfl) rfl)
     ·exact zg1 _ 3 (by omega) rfl rfl (oT rfl)
     ·exact zcl _ _ rfl rfl (oT rfl) (oT rfl)
     ·exact zck _ _ rfl rfl (oT rfl) (oT rfl)
     ·exact (zaa _ rfl (.inl rfl) rfl)
     ·exact zkt (j + 16) 16 (j) (by omega) (by omega) rfl rfl (oT rfl) OpK.const
     ·exact zak rfl rfl (oT rfl) (oT rfl) (fun w => zd3 w _ _ (j) (by omega))
     ·exact zad rfl rfl (oT rfl) (fun w' hb => zbj w' _ _ ((hb.cell (p := ⟨w.heap.size + 2, 0 + (j), none⟩) hWB).trans (hlow (j) (by omega))))
     ·exact zck _ _ rfl rfl (oT rfl) (oT rfl)
     ·exact zak rfl rfl (oT rfl) (oT rfl) (fun w => zd3 w _ _ (j + 16) (by omega))
     ·intro w' hb
      simp only [fin, sI, forall_eq]
      simp only [pcX]
      clear hlow
      have hW' := zaj HW.out hb HW.out.lt
      have hst : (((((rotr (Wt (word m) (j + 14)) 17) ^^^ (rotr (Wt (word m) (j + 14)) 19)) ^^^ ((Wt (word m) (j + 14)) >>> (10 : Nat))) + (Wt (word m) (j + 9))) + (((rotr (Wt (word m) (j + 1)) 7) ^^^ (rotr (Wt (word m) (j + 1)) 18)) ^^^ ((Wt (word m) (j + 1)) >>> (3 : Nat)))) + (Wt (word m) (j)) = Wt (word m) (j + 16) := by
       rw [znw]
       unfold s0 s1
       ac_rfl
      refine zdf (v := wv (Wt (word m) (j + 16))) rfl rfl rfl (congrArg wv hst) (zf1 w' _ _ _ (by rw [Nat.zero_add]; exact hW'.cell (i := j + 16) (by omega)) (hW'.frozen _)) ?_
      clear hst
      go_wp2_with fail
      go_roundw
      case rel =>
       have hbel := Hbel.out.trans (hb.mono Hbel.out.size)
       refine ⟨j + 1, by omega, by go_num, (hW'.set (j + 16) _).congr (fun i _ => ?_), zaj (zaj HH.out hb HH.out.lt) (zeg (show w.heap.size < w.heap.size + 2 by omega)) (Nat.lt_succ_self _), ⟨z, zaj (zaj Hz.out hb Hz.out.lt) (zeg (show w.heap.size + 1 < w.heap.size + 2 by omega)) (Nat.lt_succ_self _)⟩, hbel.setCell (show w.heap.size ≤ w.heap.size + 2 by omega) _⟩
       by_cases e : i = j + 16
       ·subst e; rw [if_pos rfl, if_pos (by omega)]
       ·rw [if_neg e]
        by_cases e2 : i < j + 16
        ·rw [if_pos e2, if_pos (by omega)]
        ·rw [if_neg e2, if_neg (by omega)]
      case measure => simp [intOf]; omega
    ·obtain rfl : j = 48 := by omega
     have hHB := hH.lt
     have hH8 : ∀ i, i < 8 → wr.cell? ⟨w.heap.size, 0 + i, none⟩ = some (wv (H i)) := fun i hi => by rw [Nat.zero_add]; exact hH.cell hi
     have HW := Hd hW
     have HH := Hd hH
     have Hz := Hd hz
     have Hbel := Hd hbel
     have HH8 := Hd hH8
     clear hW hbel hH hz hH8
     go_wp2_with fail
     have hH := HH8.out
     refine zb3 (B := wr.heap.size) (w0 := wr) [sI (.pointer (some ⟨w.heap.size, 0 + (0), none⟩)), sI (wv (H 0)), sI (.pointer (some ⟨w.heap.size, 0 + (1), none⟩)), sI (wv (H 1)), sI (.pointer (some ⟨w.heap.size, 0 + (2), none⟩)), sI (wv (H 2)), sI (.pointer (some ⟨w.heap.size, 0 + (3), none⟩)), sI (wv (H 3)), sI (.pointer (some ⟨w.heap.size, 0 + (4), none⟩)), sI (wv (H 4)), sI (.pointer (some ⟨w.heap.size, 0 + (5), none⟩)), sI (wv (H 5)), sI (.pointer (some ⟨w.heap.size, 0 + (6), none⟩)), sI (wv (H 6)), sI (.pointer (some ⟨w.heap.size, 0 + (7), none⟩)), sI (wv (H 7)), sI (wv (H 0)), sI (wv (H 1)), sI (wv (H 2)), sI (wv (H 3)), sI (wv (H 4)), sI (wv (H 5)), sI (wv (H 6)), sI (wv (H 7))] (by kernel_rfl) (by kernel_rfl) rfl lR (Below.refl _ _) ⟨?_, ?_, ?_, ?_, ?_, ?_, ?_, ?_, ?_, ?_, ?_, ?_, ?_, ?_, ?_, ?_, ?_, ?_, ?_, ?_, ?_, ?_, ?_, ?_, trivial⟩ ?_
     ·exact zak rfl rfl (oT rfl) (OpK.const) (fun w => zdr w _ _ (0) (by omega))
     ·exact zad rfl rfl (oT rfl) (fun w' hb => zbj w' _ _ ((hb.cell (p := ⟨w.heap.size, 0 + 0, none⟩) hHB).trans (hH 0 (by omega))))
     ·exact zak rfl rfl (oT rfl) (OpK.const) (fun w => zdr w _ _ (1) (by omega))
     ·exact zad rfl rfl (oT rfl) (fun w' hb => zbj w' _ _ ((hb.cell (p := ⟨w.heap.size, 0 + 1, none⟩) hHB).trans (hH 1 (by omega))))
     ·exact zak rfl rfl (oT rfl) (OpK.const) (fun w => zdr w _ _ (2) (by omega))
     ·exact zad rfl rfl (oT rfl) (fun w' hb => zbj w' _ _ ((hb.cell (p := ⟨w.heap.size, 0 + 2, none⟩) hHB).trans (hH 2 (by omega))))
     ·exact zak rfl rfl (oT rfl) (OpK.const) (fun w => zdr w _ _ (3) (by omega))
     ·exact zad rfl rfl (oT rfl) (fun w' hb => zbj w' _ _ ((hb.cell (p := ⟨w.heap.size, 0 + 3, none⟩) hHB).trans (hH 3 (by omega))))
     ·exact zak rfl rfl (oT rfl) (OpK.const) (fun w => zdr w _ _ (4) (by omega))
     ·exact zad rfl rfl (oT rfl) (fun w' hb => zbj w' _ _ ((hb.cell (p := ⟨w.heap.size, 0 + 4, none⟩) hHB).trans (hH 4 (by omega))))
     ·exact zak rfl rfl (oT rfl) (OpK.const) (fun w => zdr w _ _ (5) (by omega))
     ·exact zad rfl rfl (oT rfl) (fun w' hb => zbj w' _ _ ((hb.cell (p := ⟨w.heap.size, 0 + 5, none⟩) hHB).trans (hH 5 (by omega))))
     ·exact zak rfl rfl (oT rfl) (OpK.const) (fun w => zdr w _ _ (6) (by omega))
     ·exact zad rfl rfl (oT rfl) (fun w' hb => zbj w' _ _ ((hb.cell (p := ⟨w.heap.size, 0 + 6, none⟩) hHB).trans (hH 6 (by omega))))
     ·exact zak rfl rfl (oT rfl) (OpK.const) (fun w => zdr w _ _ (7) (by omega))
     ·exact zad rfl rfl (oT rfl) (fun w' hb => zbj w' _ _ ((hb.cell (p := ⟨w.heap.size, 0 + 7, none⟩) hHB).trans (hH 7 (by omega))))
     ·exact (zaa _ rfl (.inr rfl) rfl)
     ·exact (zaa _ rfl (.inr rfl) rfl)
     ·exact (zaa _ rfl (.inr rfl) rfl)
     ·exact (zaa _ rfl (.inr rfl) rfl)
     ·exact (zaa _ rfl (.inr rfl) rfl)
     ·exact (zaa _ rfl (.inr rfl) rfl)
     ·exact (zaa _ rfl (.inr rfl) rfl)
     ·exact (zaa _ rfl (.inr rfl) rfl)
     ·intro w' hb
      simp only [fin, sI, forall_eq]
      simp only [pcX]
      clear hH
      have b12 := hb
      have HW2 := Hd (zaj HW.out b12 HW.out.lt)
      have HH2 := Hd (zaj HH.out b12 HH.out.lt)
      have Hz2 := Hd (zaj Hz.out b12 Hz.out.lt)
      have Hbel2 := Hd (Hbel.out.trans (b12.mono Hbel.out.size))
      clear hb b12 HW HH Hz Hbel HH8
      go_wp2_with fail
      go_loopw [10, 11, 12, 13, 14, 15, 16, 17, 18] (fun v10 v11 v12 v13 v14 v15 v16 v17 v18 wr => ∃ (t : Nat) (s : S8), t ≤ 64 ∧ s = rounds (word m) (S8.of H) t ∧ v10 = wv s.a ∧ v11 = wv s.b ∧ v12 = wv s.c ∧ v13 = wv s.d ∧ v14 = wv s.e ∧ v15 = wv s.f ∧ v16 = wv s.g ∧ v17 = wv s.h ∧ v18 = .int .i64 (t : Int) ∧ wr.rowIs (w.heap.size + 2) 144 64 (fun i => if i < 48 + 16 then wv (Wt (word m) i) else wv 0) ∧ wr.rowIs w.heap.size 113 8 (fun j => wv (H j)) ∧ (∃ z, wr.rowIs (w.heap.size + 1) 113 8 z) ∧ Below w.heap.size w wr) (fun _ _ _ _ _ _ _ _ i _ => 64 - (intOf i).toNat)
      case atStart => exact ⟨0, S8.of H, by omega, rfl, rfl, rfl, rfl, rfl, rfl, rfl, rfl, rfl, rfl, HW2.out, HH2.out, ⟨_, Hz2.out⟩, Hbel2.out⟩
      case round =>
       clear HW2 HH2 Hz2 Hbel2
       obtain ⟨t, s, ht, hs, rfl, rfl, rfl, rfl, rfl, rfl, rfl, rfl, rfl, hW, hH, ⟨z, hz⟩, hbel⟩ := hrel
       by_cases ht64 : t < 64
       ·have hWB := hW.lt
        have hGB : 3 < wr.heap.size := Nat.lt_of_lt_of_le hG0 hbel.size
        have hKt : wr.cell? ⟨3, 0 + t, none⟩ = some (wv (kw t)) := by rw [Nat.zero_add]; exact (hbel.cell (p := ⟨3, t, none⟩) hG0).trans (HK.out t ht64)
        have hWt : wr.cell? ⟨w.heap.size + 2, 0 + t, none⟩ = some (wv (Wt (word m) t)) := by rw [Nat.zero_add, hW.cell ht64, if_pos (by omega)]
        have HW := Hd hW
        have HH := Hd hH
        have Hz := Hd hz
        have Hbel := Hd hbel
        have HS := Hd hs
        have HKt := Hd hKt
        have HWt := Hd hWt
        clear hW hbel hH hz hs hKt hWt
        go_wp2_with fail
        have hKt := HKt.out
        have hWt := HWt.out
        refine zb3 (B := wr.heap.size) (w0 := wr) [sI (wv (s.h)), sI (wv (s.e)), sI (wv (rotr (s.e) 6)), sI (wv (s.e)), sI (wv (rotr (s.e) 11)), sI (wv ((rotr (s.e) 6) ^^^ (rotr (s.e) 11))), sI (wv (s.e)), sI (wv (rotr (s.e) 25)), sI (wv (((rotr (s.e) 6) ^^^ (rotr (s.e) 11)) ^^^ (rotr (s.e) 25))), sI (wv ((s.h) + (((rotr (s.e) 6) ^^^ (rotr (s.e) 11)) ^^^ (rotr (s.e) 25)))), sI (wv (s.e)), sI (wv (s.f)), sI (wv ((s.e) &&& (s.f))), sI (wv (s.e)), sI (wv (~~~s.e)), sI (wv (s.g)), sI (wv ((~~~s.e) &&& (s.g))), sI (wv (((s.e) &&& (s.f)) ^^^ ((~~~s.e) &&& (s.g)))), sI (wv (((s.h) + (((rotr (s.e) 6) ^^^ (rotr (s.e) 11)) ^^^ (rotr (s.e) 25))) + (((s.e) &&& (s.f)) ^^^ ((~~~s.e) &&& (s.g))))), sI (.int .i64 ((t : Nat) : Int)), sI (.pointer (some ⟨3, 0 + (t), none⟩)), sI (wv (kw t)), sI (wv ((((s.h) + (((rotr (s.e) 6) ^^^ (rotr (s.e) 11)) ^^^ (rotr (s.e) 25))) + (((s.e) &&& (s.f)) ^^^ ((~~~s.e) &&& (s.g)))) + (kw t))), sI (.int .i64 ((t : Nat) : Int)), sI (.pointer (some ⟨w.heap.size + 2, 0 + (t), none⟩)), sI (wv (Wt (word m) t)), sI (wv (((((s.h) + (((rotr (s.e) 6) ^^^ (rotr (s.e) 11)) ^^^ (rotr (s.e) 25))) + (((s.e) &&& (s.f)) ^^^ ((~~~s.e) &&& (s.g)))) + (kw t)) + (Wt (word m) t))), sI (wv (((((s.h) + (((rotr (s.e) 6) ^^^ (rotr (s.e) 11)) ^^^ (rotr (s.e) 25))) + (((s.e) &&& (s.f)) ^^^ ((~~~s.e) &&& (s.g)))) + (kw t)) + (Wt (word m) t)))] (by kernel_rfl) (by kernel_rfl) rfl lR (Below.refl _ _) ⟨?_, ?_, ?_, ?_, ?_, ?_, ?_, ?_, ?_, ?_, ?_, ?_, ?_, ?_, ?_, ?_, ?_, ?_, ?_, ?_, ?_, ?_, ?_, ?_, ?_, ?_, ?_, ?_, trivial⟩ ?_
        ·exact (zaa _ rfl (.inl rfl) rfl)
        ·exact (zaa _ rfl (.inl rfl) rfl)
        ·refine (zb9 rfl fun a w' hb hf => ?_)
         have h122 : a.tmps[122]?.getD undef = wv (s.e) := hf 122 List.mem_cons_self
         refine ⟨105, #[wv (s.e), .int .u64 6], ?_, (zxb _ _).mono fun e w'' ⟨he, hw⟩ => ⟨_, he, rfl, hw ▸ Below.refl _ _⟩⟩
         go_light
         simp [go_sem, h122]
        ·exact (zaa _ rfl (.inl rfl) rfl)
        ·refine (zb9 rfl fun a w' hb hf => ?_)
         have h124 : a.tmps[124]?.getD undef = wv (s.e) := hf 124 List.mem_cons_self
         refine ⟨105, #[wv (s.e), .int .u64 11], ?_, (zvu _ _).mono fun e w'' ⟨he, hw⟩ => ⟨_, he, rfl, hw ▸ Below.refl _ _⟩⟩
         go_light
         simp [go_sem, h124]
        ·exact zcl _ _ rfl rfl (oT rfl) (oT rfl)
        ·exact (zaa _ rfl (.inl rfl) rfl)
        ·refine (zb9 rfl fun a w' hb hf => ?_)
         have h127 : a.tmps[127]?.getD undef = wv (s.e) := hf 127 List.mem_cons_self
         refine ⟨105, #[wv (s.e), .int .u64 25], ?_, (zv0 _ _).mono fun e w'' ⟨he, hw⟩ => ⟨_, he, rfl, hw ▸ Below.refl _ _⟩⟩
         go_light
         simp [go_sem, h127]
        ·exact zcl _ _ rfl rfl (oT rfl) (oT rfl)
        ·exact zck _ _ rfl rfl (oT rfl) (oT rfl)
        ·exact (zaa _ rfl (.inl rfl) rfl)
        ·exact (zaa _ rfl (.inl rfl) rfl)
        ·exact zi4 _ _ rfl rfl (oT rfl) (oT rfl)
        ·exact (zaa _ rfl (.inl rfl) rfl)
        ·exact zrv _ rfl rfl (oT rfl)
        ·exact (zaa _ rfl (.inl rfl) rfl)
        ·exact zi4 _ _ rfl rfl (oT rfl) (oT rfl)
        ·exact zcl _ _ rfl rfl (oT rfl) (oT rfl)
        ·exact zck _ _ rfl rfl (oT rfl) (oT rfl)
        ·exact (zaa _ rfl (.inl rfl) rfl)
        ·exact zak rfl rfl (OpK.glob) (oT rfl) (fun w => zd3 w _ _ (t) (by omega))
        ·exact zad rfl rfl (oT rfl) (fun w' hb => zbj w' _ _ ((hb.cell (p := ⟨3, 0 + t, none⟩) hGB).trans hKt))
        ·exact zck _ _ rfl rfl (oT rfl) (oT rfl)
        ·exact (zaa _ rfl (.inl rfl) rfl)
        ·exact zak rfl rfl (oT rfl) (oT rfl) (fun w => zd3 w _ _ (t) (by omega))
        ·exact zad rfl rfl (oT rfl) (fun w' hb => zbj w' _ _ ((hb.cell (p := ⟨w.heap.size + 2, 0 + t, none⟩) hWB).trans hWt))
        ·exact zck _ _ rfl rfl (oT rfl) (oT rfl)
        ·exact (zaa _ rfl (.inr rfl) rfl)
        ·intro w' hb
         simp only [fin, sI, forall_eq]
         simp only [pcX]
         clear hKt hWt
         have b16 := hb
         clear hb
         obtain ⟨T1, hT1⟩ : ∃ x, x = ((((s.h) + (((rotr (s.e) 6) ^^^ (rotr (s.e) 11)) ^^^ (rotr (s.e) 25))) + (((s.e) &&& (s.f)) ^^^ ((~~~s.e) &&& (s.g)))) + (kw t)) + (Wt (word m) t) := ⟨_, rfl⟩
         rw [← hT1]
         have HT1 := Hd hT1
         clear hT1
         go_wp2_with (first
          | (go_at_call_of 105 (Value.int IntKind.u64 2); refine (zxa _ _).mono ?_; rintro e w9 ⟨rfl, rfl⟩)
          | (go_at_call_of 105 (Value.int IntKind.u64 13); refine (zvv _ _).mono ?_; rintro e w9 ⟨rfl, rfl⟩)
          | (go_at_call_of 105 (Value.int IntKind.u64 22); refine (zvz _ _).mono ?_; rintro e w9 ⟨rfl, rfl⟩))
         simp only [zih, zkb, zig]
         refine ⟨?_, ?measure⟩
         iterate 20 apply Exists.intro
         (repeat apply Exists.intro)
         refine ⟨?rel, rfl⟩
         case rel =>
          have E1 : T1 = one (kw t) (Wt (word m) t) s := by rw [HT1.out, zvj]; rfl
          exact ⟨t + 1, (step (kw t) (Wt (word m) t) s), by omega, by rw [HS.out]; rfl, congrArg wv (by rw [E1, ztl]; rfl), rfl, rfl, rfl, congrArg wv (by rw [E1]; rfl), rfl, rfl, rfl, by go_num, zaj HW.out b16 HW.out.lt, zaj HH.out b16 HH.out.lt, ⟨z, zaj Hz.out b16 Hz.out.lt⟩, Hbel.out.trans (b16.mono Hbel.out.size)⟩
         case measure => simp [intOf]; omega
       ·obtain rfl : t = 64 := by omega
        have HW := Hd hW
        have HH := Hd hH
        have Hz := Hd hz
        have Hbel := Hd hbel
        have HS := Hd hs
        have c0 := hH.cell (i := 0) (by omega)
        have c1 := hH.cell (i := 1) (by omega)
        have c2 := hH.cell (i := 2) (by omega)
        have c3 := hH.cell (i := 3) (by omega)
        have c4 := hH.cell (i := 4) (by omega)
        have c5 := hH.cell (i := 5) (by omega)
        have c6 := hH.cell (i := 6) (by omega)
        have c7 := hH.cell (i := 7) (by omega)
        obtain ⟨cz, hcz, hsz, _⟩ := hz
        have Hcz := Hd hcz
        have Hsz := Hd hsz
        clear hW hbel hH hs hcz hsz
        go_wp2_with (refine wpList_store_row rfl 113 (.tmp 4) (.tmp 212) rfl (w.heap.size + 1) _ rfl rfl 113 cz Hcz.out ?c1 ?c2 ?c3 ?_)
        case c1 => kernel_rfl
        case c2 => exact Hsz.out
        case c3 => simp [Value.oneCell']
        simp only [zig]
        refine znu rfl (w.heap.size + 1) 113 _ (0, 0) _ rfl (zni Hcz.out _) Ty113 rfl (by kernel_rfl) rfl ⟨?_, Hbel.out.trans (zlx _ (Nat.le_succ _))⟩
        have hgo : ∀ i, i < 8 → H i + s.get i = comp H m i := fun i hi => by unfold comp; rw [HS.out]
        have g0 : H 0 + s.a = comp H m 0 := hgo 0 (by omega)
        have g1 : H 1 + s.b = comp H m 1 := hgo 1 (by omega)
        have g2 : H 2 + s.c = comp H m 2 := hgo 2 (by omega)
        have g3 : H 3 + s.d = comp H m 3 := hgo 3 (by omega)
        have g4 : H 4 + s.e = comp H m 4 := hgo 4 (by omega)
        have g5 : H 5 + s.f = comp H m 5 := hgo 5 (by omega)
        have g6 : H 6 + s.g = comp H m 6 := hgo 6 (by omega)
        have g7 : H 7 + s.h = comp H m 7 := hgo 7 (by omega)
        rw [g0, g1, g2, g3, g4, g5, g6, g7]

theorem zdx : (Tryd.prog.info? 5).map (fun i => (i.zero, i.size, i.bytes)) = some (some (.int .u8 0), 1, 1) := by kernel_rfl
theorem zpx (n : Nat) (x : Nat → Nat) : ∀ i, i < n → catF 0 (u8v x) (u8v x) i = u8v (padF n x) i := fun i hi => by
 simp only [catF, u8v, padF]; rw [if_neg (by omega), Nat.sub_zero, if_pos hi]
theorem zty (n : Nat) (x : Nat → Nat) : ∀ i, i < n + 1 → catF n (u8v (padF n x)) (fun _ => .int .u8 128) i = u8v (padF n x) i := fun i hi => by
 simp only [catF, u8v]
 by_cases h : i < n
 ·rw [if_pos h]
 ·rw [if_neg h]; unfold padF; rw [if_neg h, if_pos (by omega)]; rfl
theorem zrw (n k : Nat) (x : Nat → Nat) (h1 : n < k) (h2 : k < 64 * nb n - 8) : ∀ i, i < k + 1 → catF k (u8v (padF n x)) (fun _ => .int .u8 0) i = u8v (padF n x) i := fun i hi => by
 simp only [catF, u8v]
 by_cases h : i < k
 ·rw [if_pos h]
 ·rw [if_neg h]; unfold padF; rw [if_neg (by omega), if_neg (by omega), if_pos (by omega)]; rfl
theorem ztz (n p k : Nat) (x : Nat → Nat) (v : Value) (hk : k = 64 * nb n - (p + 1)) (hp : p < 8) (hv : v = .int .u8 ((8 * n % 18446744073709551616 / 2 ^ (8 * p) % 256 : Nat) : Int)) : ∀ i, i < k + 1 → catF k (u8v (padF n x)) (fun _ => v) i = u8v (padF n x) i := fun i hi => by
 have hnb : n < 64 * nb n - 8 := by unfold nb; omega
 simp only [catF, u8v]
 by_cases h : i < k
 ·rw [if_pos h]
 ·rw [if_neg h, hv]; unfold padF; rw [if_neg (by omega), if_neg (by omega), if_neg (by omega), show 64 * nb n - 1 - i = p by omega]

theorem zt0 (n p : Nat) (hn : n ≤ 140737488355200) : Value.int .u8 ((n : Int) * 8 / 2 ^ (8 * p) % 256) = .int .u8 ((8 * n % 18446744073709551616 / 2 ^ (8 * p) % 256 : Nat) : Int) := by
 rw [Nat.mod_eq_of_lt (show 8 * n < 18446744073709551616 by omega), show (n : Int) * 8 = ((8 * n : Nat) : Int) by omega]
 generalize 8 * n = b
 simp

theorem zoj (n c : Nat) (A : Option Addr) (x : Nat → Nat) (w : World) (hb : Rd w w.heap.size A n (u8v x)) (hn : n ≤ 140737488355200) :
 Calls Tryd.prog 103 #[.slice A n c] w fun e w' => ∃ A' c', e = .returned (.slice A' (64 * nb n) c') ∧ Own w' w.heap.size 5 A' (64 * nb n) c' (u8v (padF n x)) ∧ Below w.heap.size w w' := by
 have HB := Hd hb
 have hnb : n < 64 * nb n - 8 ∧ 64 * nb n ≤ n + 72 ∧ 8 ≤ 64 * nb n := by unfold nb; omega
 have HF1 := Hd (zpx n x)
 have HF2 := Hd (zty n x)
 clear hb
 go_enter Tryd.func103, Tryd.ntmps103
 go_wp2_with (first
  | (at_builtin; refine zfp _ (.tmp 6) (.tmp 7) 39 w.heap.size zdx Ty39 rfl rfl rfl n (u8v (padF n x)) rfl rfl (Own.new0 _ _ _ (u8v x) lR) (HB.out.alloc lR _) (fun _ _ => rfl) (Nat.zero_add _).symm HF1.out ⟨by omega, by omega⟩ (by simp) ?_; intro A1 c1 w1 o1 g1 b1; have O1 := Hd (And.intro o1 (And.intro g1 b1)); clear o1 g1 b1)
  | (at_builtin; refine zfp _ (.tmp 8) (.tmp 9) 39 w.heap.size zdx Ty39 rfl rfl rfl (n + 1) (u8v (padF n x)) rfl rfl (O1.out.1.alloc _) (Rd.one _ _ _) (fun _ _ => rfl) rfl HF2.out ⟨by omega, by omega⟩ (by have := O1.out.2.1.size; simp at this; simp; omega) ?_; intro A2 c2 w2 o2 g2 b2; have O2 := Hd (And.intro o2 (And.intro g2 b2)); clear o2 g2 b2))
 have hb1 : Below w.heap.size w w1 := za4 ((Below.refl _ w).alloc lR _) O1.out.2.1 (by simp) (by rintro ad h; injection h with h; subst h; exact Nat.le_refl _)
 have hb2 : Below w.heap.size w w2 := za4 (hb1.alloc hb1.size _) O2.out.2.1 (by have := hb1.size; simp; omega) (fun ad h => (O1.out.1.base_le ad h).1)
 have HO := Hd O2.out.1
 have HB2 := Hd hb2
 clear hb1 hb2 O1 O2
 go_loopw [3] (fun s wr => ∃ (k : Nat) (Ak : Option Addr) (ck : Nat), s = .slice Ak k ck ∧ n < k ∧ k ≤ 64 * nb n - 8 ∧ Own wr w.heap.size 5 Ak k ck (u8v (padF n x)) ∧ Below w.heap.size w wr) (fun s _ => match s with | .slice _ k _ => 64 * nb n - 8 - k | _ => 0)
 case atStart => exact ⟨n + 1, A2, c2, rfl, by omega, by omega, HO.out, HB2.out⟩
 case round =>
  clear HO HB2
  obtain ⟨k, Ak, ck, rfl, hk1, hk2, hown, hbel⟩ := hrel
  have HO := Hd hown
  have HBl := Hd hbel
  clear hown hbel
  by_cases hk : k < 64 * nb n - 8
  ·have hne : ((k : Int) % 64 != 56) = true := by rw [bne_iff_ne]; unfold nb at hk; omega
   have HF3 := Hd (zrw n k x hk1 hk)
   go_wp2_with (at_builtin; refine zfp _ (.tmp 15) (.tmp 16) 39 w.heap.size zdx Ty39 rfl rfl rfl (k + 1) (u8v (padF n x)) rfl rfl (HO.out.alloc _) (Rd.one _ _ _) (fun _ _ => rfl) rfl HF3.out ⟨by omega, by omega⟩ (by have := HBl.out.size; simp; omega) ?_; intro A3 c3 w3 o3 g3 b3; have O3 := Hd (And.intro o3 (And.intro g3 b3)); clear o3 g3 b3)
   have hb3 : Below w.heap.size w w3 := za4 (HBl.out.alloc HBl.out.size _) O3.out.2.1 (by have := HBl.out.size; simp; omega) (fun ad h => (HO.out.base_le ad h).1)
   have HB3 := Hd hb3
   clear hb3
   go_roundw
   case rel => exact ⟨k + 1, A3, c3, rfl, by omega, by omega, O3.out.1, HB3.out⟩
   case measure => show 64 * nb n - 8 - (k + 1) < 64 * nb n - 8 - k; omega
  ·have hne : ((k : Int) % 64 != 56) = false := by rw [bne_eq_false_iff_eq]; omega
   go_wp2_with fail
   go_loopw [3, 5] (fun s t wr => ∃ (p : Nat) (e : Int) (Ak : Option Addr) (ck : Nat), s = .slice Ak (64 * nb n - p) ck ∧ t = .int .i64 e ∧ e = (p : Int) - 1 ∧ p ≤ 8 ∧ Own wr w.heap.size 5 Ak (64 * nb n - p) ck (u8v (padF n x)) ∧ Below w.heap.size w wr) (fun _ t _ => (intOf t + 1).toNat)
   case atStart =>
    obtain rfl : k = 64 * nb n - 8 := by omega
    exact ⟨8, 7, Ak, ck, rfl, rfl, rfl, by omega, HO.out, HBl.out⟩
   case round =>
    clear HO HBl hne hk
    obtain ⟨p, e, Ap, cp, rfl, rfl, he, hp8, hown, hbel⟩ := hrel
    have HO := Hd hown
    have HBl := Hd hbel
    clear hown hbel
    rcases p with _ | p
    ·obtain rfl : e = -1 := by omega
     clear he
     go_wp2_with fail
     go_ret
     exact ⟨Ap, cp, rfl, HO.out, HBl.out⟩
    ·obtain rfl : e = (p : Int) := by omega
     clear he
     have HF4 := Hd (ztz n p (64 * nb n - (p + 1)) x (.int .u8 ((n : Int) * 8 / 2 ^ (8 * p) % 256)) rfl (by omega) (zt0 n p (by omega)))
     go_wp2_with (at_builtin; refine zfp _ (.tmp 26) (.tmp 33) 39 w.heap.size zdx Ty39 rfl rfl rfl (64 * nb n - (p + 1) + 1) (u8v (padF n x)) rfl rfl (HO.out.alloc _) (Rd.one _ _ _) (fun _ _ => rfl) rfl HF4.out ⟨by omega, by omega⟩ (by have := HBl.out.size; simp; omega) ?_; intro A3 c3 w3 o3 g3 b3; have O3 := Hd (And.intro o3 (And.intro g3 b3)); clear o3 g3 b3)
     have hb3 : Below w.heap.size w w3 := za4 (HBl.out.alloc HBl.out.size _) O3.out.2.1 (by have := HBl.out.size; simp; omega) (fun ad h => (HO.out.base_le ad h).1)
     have HB3 := Hd hb3
     clear hb3
     go_roundw
     case rel => exact ⟨p, (p : Int) - 1, A3, c3, by rw [show 64 * nb n - (p + 1) + 1 = 64 * nb n - p by omega], rfl, rfl, by omega, by have := O3.out.1; rwa [show 64 * nb n - (p + 1) + 1 = 64 * nb n - p by omega] at this, HB3.out⟩
     case measure => simp only [intOf]; omega
def padN (n : Nat) (v : Nat → Nat) : Nat → Nat := fun i => if i < n then v i else 0
theorem za6 {n : Nat} {v : Nat → Nat} (hv : ∀ i, v i < 256) (i : Nat) : padN n v i < 256 := by unfold padN; split; exact hv i; omega
def nch (n : Nat) : Nat := (n + 31) / 32
def leB (n i : Nat) : Nat := n / 2 ^ (8 * i) % 256
theorem zbq (n i : Nat) : leB n i < 256 := Nat.mod_lt _ (by omega)
theorem zn0 (n j : Nat) : Value.int .u8 ((n : Int) / 2 ^ (8 * j) % 256) = .int .u8 ((leB n j : Nat) : Int) := by
 unfold leB; simp
theorem zkg {n j i : Nat} (v : Value) (hv : v = .int .u8 ((leB n j : Nat) : Int)) : (if i = j then v else u8v (fun i => if i < j then leB n i else 0) i) = u8v (fun i => if i < j + 1 then leB n i else 0) i := by
 by_cases e : i = j
 ·subst e; rw [if_pos rfl, hv]; simp only [u8v]; rw [if_pos (by omega)]
 ·rw [if_neg e]; simp only [u8v]
  by_cases e2 : i < j
  ·rw [if_pos e2, if_pos (by omega)]
  ·rw [if_neg e2, if_neg (by omega)]
theorem zet (n : Nat) (w : World) :
 Calls Tryd.prog 55 #[.int .u64 (n : Int)] w fun e w' => e = .returned (.agg (arr 8 (u8v (leB n)))) ∧ Below w.heap.size w w' := by
 have H0 := Hd (((HS.nil w).allocB _ _ 108 8 (u8v fun _ => 0) (by rfl) (zbg 8 (.int .u8 0)) rfl).allocB (w.heap.size + 1) _ 108 8 (u8v fun i => if i < 0 then leB n i else 0) (by rfl) (zbg 8 (.int .u8 0)) (by simp))
 go_enter Tryd.func55, Tryd.ntmps55
 go_wp2_with fail
 go_loopw [5] (fun i wq => ∃ j : Nat, j ≤ 8 ∧ i = .int .i64 j ∧ HS w wq [⟨w.heap.size + 1, 108, 8, u8v fun i => if i < j then leB n i else 0⟩, ⟨w.heap.size, 108, 8, u8v fun _ => 0⟩]) (fun i _ => 8 - (intOf i).toNat)
 case atStart => exact ⟨0, by omega, rfl, H0.out⟩
 case round =>
  clear H0
  obtain ⟨j, hj, rfl, hs⟩ := hrel
  by_cases hj8 : j < 8
  ·have co := hs.cell 0 j rfl hj8
   have fo := hs.frozen 0 j rfl
   have HSq := Hd hs
   clear hs
   go_wp2_with fail
   go_roundw
   case rel => exact ⟨j + 1, by omega, by go_num, (HSq.out.set 0 j rfl _).congr 0 rfl (fun i _ => zkg _ (zn0 n j))⟩
   case measure => simp [intOf]; omega
  ·obtain rfl : j = 8 := by omega
   have HX := Hd (zex (hs.row 0 rfl))
   have HR := Hd (hs.row 1 rfl)
   have HSq := Hd hs
   clear hs
   go_wp2_with (first
    | (refine wpList_load_row rfl 108 (.tmp 3) rfl (w.heap.size + 1) rfl 108 _ _ _ HX.out Ty108 rfl (by kernel_rfl) ?_)
    | (refine zcb rfl 108 (.tmp 2) (.tmp 16) rfl HR.out _ rfl rfl (zam _ _) (by kernel_rfl) (fun i hi => ⟨_, zaq _ _ i hi, rfl⟩) ?_))
   have hend := HSq.out.setRow 1 rfl (arr 8 (u8v fun i => if i < 8 then leB n i else 0)) (zam _ _) _ (fun i hi => zaq _ _ i hi)
   refine za5 rfl (hend.row 1 rfl) _ rfl Ty108 rfl (by kernel_rfl) rfl ?_
   refine ⟨?_, hend.out (by simp)⟩
   rw [zca (g := u8v (leB n)) (fun i hi => by simp only [u8v]; rw [if_pos hi])]
theorem zhp (n : Nat) (w : World) :
 Calls Tryd.prog 87 #[.int .u64 (n : Int)] w fun e w' => e = .returned (.agg (arr 8 (u8v (leB n)))) ∧ Below w.heap.size w w' := by
 have H0 := Hd (((HS.nil w).allocB _ _ 108 8 (u8v fun _ => 0) (by rfl) (zbg 8 (.int .u8 0)) rfl).allocB (w.heap.size + 1) _ 108 8 (u8v fun i => if i < 0 then leB n i else 0) (by rfl) (zbg 8 (.int .u8 0)) (by simp))
 go_enter Tryd.func87, Tryd.ntmps87
 go_wp2_with fail
 go_loopw [4] (fun i wq => ∃ j : Nat, j ≤ 8 ∧ i = .int .i64 j ∧ HS w wq [⟨w.heap.size + 1, 108, 8, u8v fun i => if i < j then leB n i else 0⟩, ⟨w.heap.size, 108, 8, u8v fun _ => 0⟩]) (fun i _ => 8 - (intOf i).toNat)
 case atStart => exact ⟨0, by omega, rfl, H0.out⟩
 case round =>
  clear H0
  obtain ⟨j, hj, rfl, hs⟩ := hrel
  by_cases hj8 : j < 8
  ·have co := hs.cell 0 j rfl hj8
   have fo := hs.frozen 0 j rfl
   have HSq := Hd hs
   clear hs
   go_wp2_with fail
   go_roundw
   case rel => exact ⟨j + 1, by omega, by go_num, (HSq.out.set 0 j rfl _).congr 0 rfl (fun i _ => zkg _ (zn0 n j))⟩
   case measure => simp [intOf]; omega
  ·obtain rfl : j = 8 := by omega
   have HX := Hd (zex (hs.row 0 rfl))
   have HR := Hd (hs.row 1 rfl)
   have HSq := Hd hs
   clear hs
   go_wp2_with (first
    | (refine wpList_load_row rfl 108 (.tmp 3) rfl (w.heap.size + 1) rfl 108 _ _ _ HX.out Ty108 rfl (by kernel_rfl) ?_)
    | (refine zcb rfl 108 (.tmp 2) (.tmp 17) rfl HR.out _ rfl rfl (zam _ _) (by kernel_rfl) (fun i hi => ⟨_, zaq _ _ i hi, rfl⟩) ?_))
   have hend := HSq.out.setRow 1 rfl (arr 8 (u8v fun i => if i < 8 then leB n i else 0)) (zam _ _) _ (fun i hi => zaq _ _ i hi)
   refine za5 rfl (hend.row 1 rfl) _ rfl Ty108 rfl (by kernel_rfl) rfl ?_
   refine ⟨?_, hend.out (by simp)⟩
   rw [zca (g := u8v (leB n)) (fun i hi => by simp only [u8v]; rw [if_pos hi])]
section
variable {P : Program}
theorem zok {ops : Array Oper} {rest : List Oper} {o : Oper} {a : Act} {w : World} {Q : Exit → Act → World → Prop} (hgd : o.guard = none) {x y : Operand} {ts : Array TypeId} (ho : o.op = .call { callee := .builtin .min, args := #[x, y], argTypes := ts })
    (k : IntKind) (i j m : Int) (hx : a.eval x = .int k i) (hy : a.eval y = .int k j) (hm : m = if j < i then j else i) (hK : wpList P ops Q rest (a.put o.dst (.int k m)) w) : wpList P ops Q (o :: rest) a w :=
 wpList_plain hgd fun _ hK' => by
  have hrun : (execOp a.eval o).run P w = .ok (.value (.int k m)) w := by
   unfold execOp
   subst hm
   simp only [ho, resolve, invoke, builtin, Sem.run_bind, Sem.run_pure, Result.andThen_ok, List.map_toArray, List.map_cons, List.map_nil, hx, hy]
   simp [Builtin.min_, Builtin.min2, go_sem]
  unfold Oper.wp
  rw [hrun]
  exact hK' _ _ hK
end
end Go.Proofs.YtomilckcgmhfcaaDoor
