/- Lemmas that the proof stands on. -/
import Derived.Test.YtomilckcgmhfcaaDoorGLit5
namespace Go.Proofs.YtomilckcgmhfcaaDoor
set_option maxRecDepth 40000
set_option maxHeartbeats 64000000
open Go.RowKit

def ring (m : Nat → W32) (t j : Nat) : W32 := Wt m (t + (j + 16 - t % 16) % 16)
theorem ztw (m : Nat → W32) (t d : Nat) (h : d < 16) : ring m t ((t + d) % 16) = Wt m (t + d) := by
 unfold ring; rw [show t + ((t + d) % 16 + 16 - t % 16) % 16 = t + d by omega]
theorem zpu (m : Nat → W32) (t j : Nat) (hj : j < 16) : (if j = t % 16 then wv (Wt m (t + 16)) else wv (ring m t j)) = wv (ring m (t + 1) j) := by
 unfold ring
 by_cases e : j = t % 16
 ·rw [if_pos e, show t + 1 + (j + 16 - (t + 1) % 16) % 16 = t + 16 by omega]
 ·rw [if_neg e, show t + 1 + (j + 16 - (t + 1) % 16) % 16 = t + (j + 16 - t % 16) % 16 by omega]
theorem zpv (a : Array Value) (n : Nat) (h : a.size = n) : a = ((List.range n).map fun i => a.getD i undef).toArray := by
 apply Array.ext
 ·simp [h]
 ·intro i h1 h2
  simp [Array.getD, h1]
def JMix (g o : Nat) (A : Option Addr) (n c : Nat) (H : Nat → W32) (m : Nat → Nat) (w : World) (a' : Act) (w' : World) : Prop :=
 ∃ (t : Nat) (s : S8), t < 64 ∧ s = rounds (word m) (S8.of H) t ∧ w'.rowIs w.heap.size 142 16 (fun j => wv (ring (word m) t j)) ∧ Below w.heap.size w w' ∧
  a'.defers = [] ∧ a'.tmps.size = 217 ∧ a'.tmps.getD 0 undef = .pointer (some ⟨g, o, none⟩) ∧ a'.tmps.getD 1 undef = .slice A n c ∧ a'.tmps.getD 4 undef = .pointer (some ⟨w.heap.size, 0, none⟩) ∧ a'.tmps.getD 14 undef = .int .i64 (t : Int) ∧ a'.tmps.getD 6 undef = wv s.a ∧ a'.tmps.getD 7 undef = wv s.b ∧ a'.tmps.getD 8 undef = wv s.c ∧ a'.tmps.getD 9 undef = wv s.d ∧ a'.tmps.getD 10 undef = wv s.e ∧ a'.tmps.getD 11 undef = wv s.f ∧ a'.tmps.getD 12 undef = wv s.g ∧ a'.tmps.getD 13 undef = wv s.h

theorem zrt (w : World) (s : S8) (k : Nat) (hk : k < 8) : (Instr.index 113 (.agg #[wv s.a, wv s.b, wv s.c, wv s.d, wv s.e, wv s.f, wv s.g, wv s.h]) (.int .i64 (k : Int))).run Tryd.prog w = .ok (wv (s.get k)) w := by
 obtain ⟨a, b, c, d, e, f, g, h⟩ := s
 have hk8 : k = 0 ∨ k = 1 ∨ k = 2 ∨ k = 3 ∨ k = 4 ∨ k = 5 ∨ k = 6 ∨ k = 7 := by omega
 have i0 : (Instr.index 113 (.agg #[wv a, wv b, wv c, wv d, wv e, wv f, wv g, wv h]) (.int .i64 ((0 : Nat) : Int))).run Tryd.prog w = .ok (wv a) w := by kernel_rfl
 have i1 : (Instr.index 113 (.agg #[wv a, wv b, wv c, wv d, wv e, wv f, wv g, wv h]) (.int .i64 ((1 : Nat) : Int))).run Tryd.prog w = .ok (wv b) w := by kernel_rfl
 have i2 : (Instr.index 113 (.agg #[wv a, wv b, wv c, wv d, wv e, wv f, wv g, wv h]) (.int .i64 ((2 : Nat) : Int))).run Tryd.prog w = .ok (wv c) w := by kernel_rfl
 have i3 : (Instr.index 113 (.agg #[wv a, wv b, wv c, wv d, wv e, wv f, wv g, wv h]) (.int .i64 ((3 : Nat) : Int))).run Tryd.prog w = .ok (wv d) w := by kernel_rfl
 have i4 : (Instr.index 113 (.agg #[wv a, wv b, wv c, wv d, wv e, wv f, wv g, wv h]) (.int .i64 ((4 : Nat) : Int))).run Tryd.prog w = .ok (wv e) w := by kernel_rfl
 have i5 : (Instr.index 113 (.agg #[wv a, wv b, wv c, wv d, wv e, wv f, wv g, wv h]) (.int .i64 ((5 : Nat) : Int))).run Tryd.prog w = .ok (wv f) w := by kernel_rfl
 have i6 : (Instr.index 113 (.agg #[wv a, wv b, wv c, wv d, wv e, wv f, wv g, wv h]) (.int .i64 ((6 : Nat) : Int))).run Tryd.prog w = .ok (wv g) w := by kernel_rfl
 have i7 : (Instr.index 113 (.agg #[wv a, wv b, wv c, wv d, wv e, wv f, wv g, wv h]) (.int .i64 ((7 : Nat) : Int))).run Tryd.prog w = .ok (wv h) w := by kernel_rfl
 rcases hk8 with rfl | rfl | rfl | rfl | rfl | rfl | rfl | rfl
 ·exact i0
 ·exact i1
 ·exact i2
 ·exact i3
 ·exact i4
 ·exact i5
 ·exact i6
 ·exact i7

theorem zkf {P : Program} {a : Act} {w : World} {Q : Exit → Act → World → Prop} {c R : Code} (l : Nat) (J : Act → World → Prop) (μ : Act → World → Nat) (hf : findLabel c l = some (.seq .skip R))
    (pass : ∀ a w, J a w → R.wp P (Exit.jump l (fun a' w' => J a' w' ∧ μ a' w' < μ a w) Q) a w)
    (first : (∀ a w, J a w → R.wp P (Exit.jump l J Q) a w) → c.wp P (Exit.jump l J Q) a w) : (Code.scope c).wp P Q a w := by
 refine wp_scope_jumps l J μ hf (first fun a w h => wp_mono (pass a w h) ?_) fun a w h => wp_seq (wp_skip (pass a w h))
 intro e a' w' he
 cases e with
 | goto l' => exact ⟨he.1, he.2.1⟩
 | _ => exact he

set_option maxRecDepth 100000 in
theorem znz (g o n c B : Nat) (A : Option Addr) (t0 : TypeId) (N : Nat) (F : Nat → Value) (H : Nat → W32) (m : Nat → Nat) (w : World) (hrow : w.rowIs g t0 N F) (ho : o + 8 ≤ N) (hF : ∀ i, i < 8 → F (o + i) = wv (H i))
    (hm : ∀ i, m i < 256) (hb : Rd w B A n (fun i => .int .u8 ((m i : Nat) : Int))) (hB : B ≤ w.heap.size) (hn : 64 ≤ n) (hn2 : n ≤ 140737488355328)
    (hK0 : ∀ i, i < 64 → w.cell? ⟨1, i, none⟩ = some (wv (kw i))) :
    Calls Tryd.prog 58 #[.pointer (some ⟨g, o, none⟩), .slice A n c] w fun e w' => e = .returned (.tuple #[]) ∧
     w'.rowIs g t0 N (fun j => if o ≤ j ∧ j < o + 8 then wv (comp H m (j - o)) else F j) ∧ w.grownBy w' (some g) := by
 have hglt := hrow.lt
 have hG0 : 1 < w.heap.size := by have h := hK0 0 (by omega); have := zez h; exact this
 have HH := Hd (show ∀ i, i < 8 → w.cell? ⟨g, o + i, none⟩ = some (wv (H i)) from fun i hi => by rw [hrow.cell (by omega), hF i hi])
 have HF := Hd hF
 have Hrow := Hd hrow
 have HK := Hd hK0
 clear hrow hF hK0
 go_enter Tryd.func58, Tryd.ntmps58
 refine zkf 0 (JMix g o A n c H m w) (fun a' _ => 64 - (intOf (a'.tmps.getD 14 undef)).toNat) rfl ?_ ?_
 ·rintro ⟨tm, df⟩ wr ⟨t, s, ht, hs, hW, hbel, hdf, hsz, f0, f1, f4, f14, f6, f7, f8, f9, f10, f11, f12, f13⟩
  simp only at hdf hsz f0 f1 f4 f14 f6 f7 f8 f9 f10 f11 f12 f13
  subst hdf
  have hl := zpv tm 217 hsz
  simp only [List.range, List.range.loop, List.map, f0, f1, f4, f14, f6, f7, f8, f9, f10, f11, f12, f13] at hl
  rw [hl]
  clear hl
  clear f0 f1 f4 f14 f6 f7 f8 f9 f10 f11 f12 f13 hsz
  have HS := Hd hs
  have hWB := hW.lt
  have hGB : 1 < wr.heap.size := Nat.lt_of_lt_of_le hG0 hbel.size
  have hK : ∀ i, i < 64 → wr.cell? ⟨1, i, none⟩ = some (wv (kw i)) := fun i hi => (hbel.cell (p := ⟨1, i, none⟩) hG0).trans (HK.out i hi)
  have hring : ∀ d, d < 16 → wr.cell? ⟨w.heap.size, 0 + ((t + d) % 2 ^ 4), none⟩ = some (wv (Wt (word m) (t + d))) := fun d hd => by
   rw [show 0 + (t + d) % 2 ^ 4 = (t + d) % 16 by omega, hW.cell (Nat.mod_lt _ (by omega)), ztw _ _ _ hd]
  have c8 : wr.cell? ⟨w.heap.size, t % 16, none⟩ = some (wv (Wt (word m) t)) := by have := hring 0 (by omega); rwa [show 0 + (t + 0) % 2 ^ 4 = t % 16 by omega] at this
  have h15 : bits .and .i64 (t : Int) 15 = ((t % 16 : Nat) : Int) := zis t 4 (by omega) (by omega)
  have HW := Hd hW
  have Hbel := Hd hbel
  have Hring := Hd hring
  have HK2 := Hd hK
  clear hs hW hbel hring hK hb hm
  have ht16 : t % 16 < 16 := Nat.mod_lt _ (by omega)
  go_wp2_with fail
  clear h15 c8
  have hring := Hring.out
  have hK := HK2.out
  refine zb3 (B := wr.heap.size) (w0 := wr) [sI (wv (s.h)), sI (wv (s.e)), sI (wv (rotr (s.e) 6)), sI (wv (s.e)), sI (wv (rotr (s.e) 11)), sI (wv ((rotr (s.e) 6) ^^^ (rotr (s.e) 11))), sI (wv (s.e)), sI (wv (rotr (s.e) 25)), sI (wv (((rotr (s.e) 6) ^^^ (rotr (s.e) 11)) ^^^ (rotr (s.e) 25))), sI (wv ((s.h) + (((rotr (s.e) 6) ^^^ (rotr (s.e) 11)) ^^^ (rotr (s.e) 25)))), sI (wv (s.g)), sI (wv (s.e)), sI (wv (s.f)), sI (wv (s.g)), sI (wv ((s.f) ^^^ (s.g))), sI (wv ((s.e) &&& ((s.f) ^^^ (s.g)))), sI (wv ((s.g) ^^^ ((s.e) &&& ((s.f) ^^^ (s.g))))), sI (wv (((s.h) + (((rotr (s.e) 6) ^^^ (rotr (s.e) 11)) ^^^ (rotr (s.e) 25))) + ((s.g) ^^^ ((s.e) &&& ((s.f) ^^^ (s.g)))))), sI (.int .i64 ((t : Nat) : Int)), sI (.int .i64 (((t) % 2 ^ 6 : Nat) : Int)), sI (.pointer (some ⟨1, 0 + ((t) % 2 ^ 6), none⟩)), sI (wv (kw t)), sI (wv ((((s.h) + (((rotr (s.e) 6) ^^^ (rotr (s.e) 11)) ^^^ (rotr (s.e) 25))) + ((s.g) ^^^ ((s.e) &&& ((s.f) ^^^ (s.g))))) + (kw t))), sI (wv (Wt (word m) t)), sI (wv (((((s.h) + (((rotr (s.e) 6) ^^^ (rotr (s.e) 11)) ^^^ (rotr (s.e) 25))) + ((s.g) ^^^ ((s.e) &&& ((s.f) ^^^ (s.g))))) + (kw t)) + (Wt (word m) t))), sI (wv (((((s.h) + (((rotr (s.e) 6) ^^^ (rotr (s.e) 11)) ^^^ (rotr (s.e) 25))) + ((s.g) ^^^ ((s.e) &&& ((s.f) ^^^ (s.g))))) + (kw t)) + (Wt (word m) t)))] (by kernel_rfl) (by kernel_rfl) rfl lR (Below.refl _ _) ⟨?_, ?_, ?_, ?_, ?_, ?_, ?_, ?_, ?_, ?_, ?_, ?_, ?_, ?_, ?_, ?_, ?_, ?_, ?_, ?_, ?_, ?_, ?_, ?_, ?_, ?_, trivial⟩ ?_
  ·exact (zaa _ rfl (.inl rfl) rfl)
  ·exact (zaa _ rfl (.inl rfl) rfl)
  ·refine (zb9 rfl fun a w' hb hf => ?_)
   have h98 : a.tmps[98]?.getD undef = wv (s.e) := hf 98 List.mem_cons_self
   refine ⟨82, #[wv (s.e), .int .i64 6], ?_, (zvo _ _).mono fun e w'' ⟨he, hw⟩ => ⟨_, he, rfl, hw ▸ Below.refl _ _⟩⟩
   go_light
   simp [go_sem, h98]
  ·exact (zaa _ rfl (.inl rfl) rfl)
  ·refine (zb9 rfl fun a w' hb hf => ?_)
   have h100 : a.tmps[100]?.getD undef = wv (s.e) := hf 100 List.mem_cons_self
   refine ⟨82, #[wv (s.e), .int .i64 11], ?_, (ztp _ _).mono fun e w'' ⟨he, hw⟩ => ⟨_, he, rfl, hw ▸ Below.refl _ _⟩⟩
   go_light
   simp [go_sem, h100]
  ·exact zcl _ _ rfl rfl (oT rfl) (oT rfl)
  ·exact (zaa _ rfl (.inl rfl) rfl)
  ·refine (zb9 rfl fun a w' hb hf => ?_)
   have h103 : a.tmps[103]?.getD undef = wv (s.e) := hf 103 List.mem_cons_self
   refine ⟨82, #[wv (s.e), .int .i64 25], ?_, (ztv _ _).mono fun e w'' ⟨he, hw⟩ => ⟨_, he, rfl, hw ▸ Below.refl _ _⟩⟩
   go_light
   simp [go_sem, h103]
  ·exact zcl _ _ rfl rfl (oT rfl) (oT rfl)
  ·exact zck _ _ rfl rfl (oT rfl) (oT rfl)
  ·exact (zaa _ rfl (.inl rfl) rfl)
  ·exact (zaa _ rfl (.inl rfl) rfl)
  ·exact (zaa _ rfl (.inl rfl) rfl)
  ·exact (zaa _ rfl (.inl rfl) rfl)
  ·exact zcl _ _ rfl rfl (oT rfl) (oT rfl)
  ·exact zi4 _ _ rfl rfl (oT rfl) (oT rfl)
  ·exact zcl _ _ rfl rfl (oT rfl) (oT rfl)
  ·exact zck _ _ rfl rfl (oT rfl) (oT rfl)
  ·exact (zaa _ rfl (.inl rfl) rfl)
  ·exact zfc (t) 6 (by omega) (by omega) rfl rfl rfl (oT rfl)
  ·exact zak rfl rfl (OpK.glob) (oT rfl) (fun w => zd3 w _ _ ((t) % 2 ^ 6) (by omega))
  ·exact zad rfl rfl (oT rfl) (fun w' hb => zbj w' _ _ ((hb.cell (p := ⟨1, 0 + (t % 2 ^ 6), none⟩) hGB).trans (by rw [show 0 + t % 2 ^ 6 = t by omega]; exact hK t (by omega))))
  ·exact zck _ _ rfl rfl (oT rfl) (oT rfl)
  ·exact (zaa _ rfl (.inl rfl) rfl)
  ·exact zck _ _ rfl rfl (oT rfl) (oT rfl)
  ·exact (zaa _ rfl (.inr rfl) rfl)
  ·intro w' hb
   simp only [fin, sI, forall_eq]
   simp only [pcX]
   clear hring hK
   have b9 := hb
   clear hb
   obtain ⟨T1, hT1⟩ : ∃ x, x = ((((s.h) + (((rotr (s.e) 6) ^^^ (rotr (s.e) 11)) ^^^ (rotr (s.e) 25))) + ((s.g) ^^^ ((s.e) &&& ((s.f) ^^^ (s.g))))) + (kw t)) + (Wt (word m) t) := ⟨_, rfl⟩
   rw [← hT1]
   have HT1 := Hd hT1
   clear hT1
   go_wp2_with (first
    | (go_at_call_of 82 (Value.int IntKind.i64 2); refine (zvn _ _).mono ?_; rintro e w9 ⟨rfl, rfl⟩)
    | (go_at_call_of 82 (Value.int IntKind.i64 13); refine (ztq _ _).mono ?_; rintro e w9 ⟨rfl, rfl⟩)
    | (go_at_call_of 82 (Value.int IntKind.i64 22); refine (ztu _ _).mono ?_; rintro e w9 ⟨rfl, rfl⟩))
   simp only [zih, zkb, zcg, zig]
   obtain ⟨T0, hT0⟩ : ∃ x, x = (rotr s.a 2 ^^^ rotr s.a 13 ^^^ rotr s.a 22) + (s.a &&& s.b ||| s.c &&& (s.a ||| s.b)) := ⟨_, rfl⟩
   rw [← hT0]
   obtain ⟨T2, hT2⟩ : ∃ x, x = T1 + T0 := ⟨_, rfl⟩
   rw [← hT2]
   obtain ⟨T3, hT3⟩ : ∃ x, x = s.d + T1 := ⟨_, rfl⟩
   rw [← hT3]
   have E2 := Hd (show T2 = (step (kw t) (Wt (word m) t) s).a by rw [hT2, hT0, HT1.out]; rfl)
   have E3 := Hd (show T3 = (step (kw t) (Wt (word m) t) s).e by rw [hT3, HT1.out]; rfl)
   clear hT0 hT2 hT3
   have hring := Hring.out
   have hK := HK2.out
   refine zb3 (B := wr.heap.size) (w0 := wr) [sI (.int .i64 ((t : Nat) : Int)), sI (.int .i64 ((t + 1 : Nat) : Int)), sI (.int .i64 (((t + 1) % 2 ^ 4 : Nat) : Int)), sI (.pointer (some ⟨w.heap.size, 0 + ((t + 1) % 2 ^ 4), none⟩)), sI (wv (Wt (word m) (t + 1))), sI (.int .i64 ((t : Nat) : Int)), sI (.int .i64 ((t + 14 : Nat) : Int)), sI (.int .i64 (((t + 14) % 2 ^ 4 : Nat) : Int)), sI (.pointer (some ⟨w.heap.size, 0 + ((t + 14) % 2 ^ 4), none⟩)), sI (wv (Wt (word m) (t + 14))), sI (wv (Wt (word m) (t + 1))), sI (wv (Wt (word m) (t + 14)))] (by kernel_rfl) (by kernel_rfl) rfl lR b9 ⟨?_, ?_, ?_, ?_, ?_, ?_, ?_, ?_, ?_, ?_, ?_, ?_, trivial⟩ ?_
   ·exact (zaa _ rfl (.inl rfl) rfl)
   ·exact zcc _ _ (by omega) rfl rfl (oT rfl) (OpK.const)
   ·exact zfc (t + 1) 4 (by omega) (by omega) rfl rfl rfl (oT rfl)
   ·exact zak rfl rfl (oT rfl) (oT rfl) (fun w => zff w _ _ ((t + 1) % 2 ^ 4) (by omega))
   ·exact zad rfl rfl (oT rfl) (fun w' hb => zbj w' _ _ ((hb.cell (p := ⟨w.heap.size, 0 + ((t + 1) % 2 ^ 4), none⟩) hWB).trans (hring 1 (by omega))))
   ·exact (zaa _ rfl (.inl rfl) rfl)
   ·exact zcc _ _ (by omega) rfl rfl (oT rfl) (OpK.const)
   ·exact zfc (t + 14) 4 (by omega) (by omega) rfl rfl rfl (oT rfl)
   ·exact zak rfl rfl (oT rfl) (oT rfl) (fun w => zff w _ _ ((t + 14) % 2 ^ 4) (by omega))
   ·exact zad rfl rfl (oT rfl) (fun w' hb => zbj w' _ _ ((hb.cell (p := ⟨w.heap.size, 0 + ((t + 14) % 2 ^ 4), none⟩) hWB).trans (hring 14 (by omega))))
   ·exact (zaa _ rfl (.inr rfl) rfl)
   ·exact (zaa _ rfl (.inr rfl) rfl)
   ·intro w' hb
    simp only [fin, sI, forall_eq]
    simp only [pcX]
    clear hring hK
    have b12 := hb
    clear hb b9
    go_wp2_with fail
    have hring := Hring.out
    have hK := HK2.out
    refine zc7 (l := [_, _, _, _, _, _, _, _, _, _, _, _, _, _, _, _, _, _, _, _, _, _, _, _, _, _, _, _]) (B := wr.heap.size) (w0 := wr) [sI (.int .i64 ((t : Nat) : Int)), sI (.int .i64 (((t) % 2 ^ 4 : Nat) : Int)), sI (wv (Wt (word m) t)), sI (wv (Wt (word m) (t + 1))), sI (wv (rotr (Wt (word m) (t + 1)) 7)), sI (wv (Wt (word m) (t + 1))), sI (wv (rotr (Wt (word m) (t + 1)) 18)), sI (wv ((rotr (Wt (word m) (t + 1)) 7) ^^^ (rotr (Wt (word m) (t + 1)) 18))), sI (wv (Wt (word m) (t + 1))), sI (wv ((Wt (word m) (t + 1)) >>> (3 : Nat))), sI (wv (((rotr (Wt (word m) (t + 1)) 7) ^^^ (rotr (Wt (word m) (t + 1)) 18)) ^^^ ((Wt (word m) (t + 1)) >>> (3 : Nat)))), sI (wv ((Wt (word m) t) + (((rotr (Wt (word m) (t + 1)) 7) ^^^ (rotr (Wt (word m) (t + 1)) 18)) ^^^ ((Wt (word m) (t + 1)) >>> (3 : Nat))))), sI (.int .i64 ((t : Nat) : Int)), sI (.int .i64 ((t + 9 : Nat) : Int)), sI (.int .i64 (((t + 9) % 2 ^ 4 : Nat) : Int)), sI (.pointer (some ⟨w.heap.size, 0 + ((t + 9) % 2 ^ 4), none⟩)), sI (wv (Wt (word m) (t + 9))), sI (wv (((Wt (word m) t) + (((rotr (Wt (word m) (t + 1)) 7) ^^^ (rotr (Wt (word m) (t + 1)) 18)) ^^^ ((Wt (word m) (t + 1)) >>> (3 : Nat)))) + (Wt (word m) (t + 9)))), sI (wv (Wt (word m) (t + 14))), sI (wv (rotr (Wt (word m) (t + 14)) 17)), sI (wv (Wt (word m) (t + 14))), sI (wv (rotr (Wt (word m) (t + 14)) 19)), sI (wv ((rotr (Wt (word m) (t + 14)) 17) ^^^ (rotr (Wt (word m) (t + 14)) 19))), sI (wv (Wt (word m) (t + 14))), sI (wv ((Wt (word m) (t + 14)) >>> (10 : Nat))), sI (wv (((rotr (Wt (word m) (t + 14)) 17) ^^^ (rotr (Wt (word m) (t + 14)) 19)) ^^^ ((Wt (word m) (t + 14)) >>> (10 : Nat)))), sI (wv ((((Wt (word m) t) + (((rotr (Wt (word m) (t + 1)) 7) ^^^ (rotr (Wt (word m) (t + 1)) 18)) ^^^ ((Wt (word m) (t + 1)) >>> (3 : Nat)))) + (Wt (word m) (t + 9))) + (((rotr (Wt (word m) (t + 14)) 17) ^^^ (rotr (Wt (word m) (t + 14)) 19)) ^^^ ((Wt (word m) (t + 14)) >>> (10 : Nat))))), sI (.pointer (some ⟨w.heap.size, 0 + ((t) % 2 ^ 4), none⟩))] (by kernel_rfl) (by kernel_rfl) rfl lR b12 ⟨?_, ?_, ?_, ?_, ?_, ?_, ?_, ?_, ?_, ?_, ?_, ?_, ?_, ?_, ?_, ?_, ?_, ?_, ?_, ?_, ?_, ?_, ?_, ?_, ?_, ?_, ?_, ?_, trivial⟩ ?_
    ·exact (zaa _ rfl (.inl rfl) rfl)
    ·exact zfc (t) 4 (by omega) (by omega) rfl rfl rfl (oT rfl)
    ·exact (zaa _ rfl (.inl rfl) rfl)
    ·exact (zaa _ rfl (.inl rfl) rfl)
    ·refine (zb9 rfl fun a w' hb hf => ?_)
     have h165 : a.tmps[165]?.getD undef = wv (Wt (word m) (t + 1)) := hf 165 List.mem_cons_self
     refine ⟨82, #[wv (Wt (word m) (t + 1)), .int .i64 7], ?_, (zvp _ _).mono fun e w'' ⟨he, hw⟩ => ⟨_, he, rfl, hw ▸ Below.refl _ _⟩⟩
     go_light
     simp [go_sem, h165]
    ·exact (zaa _ rfl (.inl rfl) rfl)
    ·refine (zb9 rfl fun a w' hb hf => ?_)
     have h167 : a.tmps[167]?.getD undef = wv (Wt (word m) (t + 1)) := hf 167 List.mem_cons_self
     refine ⟨82, #[wv (Wt (word m) (t + 1)), .int .i64 18], ?_, (zts _ _).mono fun e w'' ⟨he, hw⟩ => ⟨_, he, rfl, hw ▸ Below.refl _ _⟩⟩
     go_light
     simp [go_sem, h167]
    ·exact zcl _ _ rfl rfl (oT rfl) (oT rfl)
    ·exact (zaa _ rfl (.inl rfl) rfl)
    ·exact zg1 _ 3 (by omega) rfl rfl (oT rfl)
    ·exact zcl _ _ rfl rfl (oT rfl) (oT rfl)
    ·exact zck _ _ rfl rfl (oT rfl) (oT rfl)
    ·exact (zaa _ rfl (.inl rfl) rfl)
    ·exact zcc _ _ (by omega) rfl rfl (oT rfl) (OpK.const)
    ·exact zfc (t + 9) 4 (by omega) (by omega) rfl rfl rfl (oT rfl)
    ·exact zak rfl rfl (oT rfl) (oT rfl) (fun w => zff w _ _ ((t + 9) % 2 ^ 4) (by omega))
    ·exact zad rfl rfl (oT rfl) (fun w' hb => zbj w' _ _ ((hb.cell (p := ⟨w.heap.size, 0 + ((t + 9) % 2 ^ 4), none⟩) hWB).trans (hring 9 (by omega))))
    ·exact zck _ _ rfl rfl (oT rfl) (oT rfl)
    ·exact (zaa _ rfl (.inl rfl) rfl)
    ·refine (zb9 rfl fun a w' hb hf => ?_)
     have h180 : a.tmps[180]?.getD undef = wv (Wt (word m) (t + 14)) := hf 180 List.mem_cons_self
     refine ⟨82, #[wv (Wt (word m) (t + 14)), .int .i64 17], ?_, (ztr _ _).mono fun e w'' ⟨he, hw⟩ => ⟨_, he, rfl, hw ▸ Below.refl _ _⟩⟩
     go_light
     simp [go_sem, h180]
    ·exact (zaa _ rfl (.inl rfl) rfl)
    ·refine (zb9 rfl fun a w' hb hf => ?_)
     have h182 : a.tmps[182]?.getD undef = wv (Wt (word m) (t + 14)) := hf 182 List.mem_cons_self
     refine ⟨82, #[wv (Wt (word m) (t + 14)), .int .i64 19], ?_, (ztt _ _).mono fun e w'' ⟨he, hw⟩ => ⟨_, he, rfl, hw ▸ Below.refl _ _⟩⟩
     go_light
     simp [go_sem, h182]
    ·exact zcl _ _ rfl rfl (oT rfl) (oT rfl)
    ·exact (zaa _ rfl (.inl rfl) rfl)
    ·exact zg1 _ 10 (by omega) rfl rfl (oT rfl)
    ·exact zcl _ _ rfl rfl (oT rfl) (oT rfl)
    ·exact zck _ _ rfl rfl (oT rfl) (oT rfl)
    ·exact zak rfl rfl (oT rfl) (oT rfl) (fun w => zff w _ _ ((t) % 2 ^ 4) (by omega))
    ·intro w' hb
     simp only [fin, sI, forall_eq]
     simp only [pcX]
     clear hring hK b12
     have hW' := zaj HW.out hb HW.out.lt
     refine zdf (v := wv (Wt (word m) (t + 16))) rfl rfl rfl (congrArg wv (znw (word m) t).symm) (zf1 w' _ _ _ (by rw [Nat.zero_add]; exact hW'.cell (i := t % 16) ht16) (hW'.frozen _)) ?_
     have hW2 : (w'.setCell ⟨w.heap.size, 0 + t % 2 ^ 4, none⟩ (wv (Wt (word m) (t + 16)))).rowIs w.heap.size 142 16 (fun j => wv (ring (word m) (t + 1) j)) := by
      rw [Nat.zero_add]
      exact (hW'.set (t % 16) _).congr (fun j hj => zpu (word m) t j hj)
     have hbel2 : Below w.heap.size w (w'.setCell ⟨w.heap.size, 0 + t % 2 ^ 4, none⟩ (wv (Wt (word m) (t + 16)))) := (Hbel.out.trans (hb.mono Hbel.out.size)).setCell lR _
     generalize w'.setCell ⟨w.heap.size, 0 + t % 2 ^ 4, none⟩ (wv (Wt (word m) (t + 16))) = w2 at *
     have HW2 := Hd hW2
     have Hbel2 := Hd hbel2
     have Hs2 := Hd (show rounds (word m) (S8.of H) (t + 1) = (step (kw t) (Wt (word m) t) s) by rw [HS.out]; rfl)
     clear hW2 hbel2 hW' hb
     by_cases hlast : t + 1 < 64
     ·go_wp2_with fail
      go_step3
      refine ⟨rfl, ⟨t + 1, (step (kw t) (Wt (word m) t) s), hlast, Hs2.out.symm, HW2.out, Hbel2.out, rfl, rfl, rfl, rfl, rfl, (by rw [Int.natCast_succ]; rfl), (congrArg wv E2.out), rfl, rfl, rfl, (congrArg wv E3.out), rfl, rfl, rfl⟩, ?_⟩
      show 64 - (intOf (.int .i64 ((t : Int) + 1))).toNat < 64 - (intOf (.int .i64 (t : Int))).toNat
      simp only [intOf]
      omega
     ·have h64 : t + 1 = 64 := by omega
      obtain ⟨s2, hs2⟩ : ∃ x, x = (step (kw t) (Wt (word m) t) s) := ⟨_, rfl⟩
      have HS2 := Hd hs2
      clear hs2
      have HG2 := Hd (zgm Hbel2.out (some g))
      have HR2 := Hd (show w2.rowIs g t0 N (fun j => if o ≤ j ∧ j < o + 0 then wv (comp H m (j - o)) else F j) from (zaj Hrow.out Hbel2.out hglt).congr (fun j _ => by rw [if_neg (by omega)]))
      go_wp2_with fail
      go_loopw [203] (fun i wq => ∃ k : Nat, k ≤ 8 ∧ i = .int .i64 k ∧ wq.rowIs g t0 N (fun j => if o ≤ j ∧ j < o + k then wv (comp H m (j - o)) else F j) ∧ w.grownBy wq (some g)) (fun i _ => 8 - (intOf i).toNat)
      case atStart => exact ⟨0, Nat.zero_le _, rfl, HR2.out, HG2.out⟩
      case round =>
       obtain ⟨k, hk, rfl, hR, hgr⟩ := hrel
       by_cases hk8 : k < 8
       ·have hidx : ∀ w : World, (Instr.index 113 (.agg #[wv T2, wv s.a, wv s.b, wv s.c, wv T3, wv s.e, wv s.f, wv s.g]) (.int .i64 (k : Int))).run Tryd.prog w = .ok (wv (s2.get k)) w := fun w => by
         rw [E2.out, E3.out, HS2.out]
         clear HR2 hR hgr HG2
         exact zrt w (step (kw t) (Wt (word m) t) s) k hk8
        have HR := Hd hR
        have Hgr := Hd hgr
        clear hR hgr
        go_wp2_with fail
        have hgB2 : g < wr.heap.size := Nat.lt_of_lt_of_le hglt Hgr.out.size
        have hHk : wr.cell? ⟨g, o + k, none⟩ = some (wv (H k)) := by rw [HR.out.cell (by omega), if_neg (by omega), HF.out k hk8]
        refine zc7 (l := [_, _, _, _, _, _, _, _, _]) (B := wr.heap.size) (w0 := wr) [sI (.pointer (some ⟨g, o, none⟩)), sI (.int .i64 ((k : Nat) : Int)), sI (.pointer (some ⟨g, o, none⟩)), sI (.pointer (some ⟨g, o + (k), none⟩)), sI (wv (H k)), sI (wv (s2.get k)), sI (wv ((H k) + (s2.get k))), sI (.pointer (some ⟨g, o, none⟩)), sI (.pointer (some ⟨g, o + (k), none⟩))] (by kernel_rfl) (by kernel_rfl) rfl lR (Below.refl _ _) ⟨?_, ?_, ?_, ?_, ?_, ?_, ?_, ?_, ?_, trivial⟩ ?_
        ·exact (zaa _ rfl (.inl rfl) rfl)
        ·exact (zaa _ rfl (.inl rfl) rfl)
        ·exact zar _ rfl rfl (oT rfl)
        ·exact zak rfl rfl (oT rfl) (oT rfl) (fun w => zdg w _ _ (k) (by omega))
        ·exact zad rfl rfl (oT rfl) (fun w' hb => zbj w' _ _ ((hb.cell hgB2).trans hHk))
        ·exact (zaa _ rfl (.inl rfl) rfl)
        ·exact zck _ _ rfl rfl (oT rfl) (oT rfl)
        ·exact zar _ rfl rfl (oT rfl)
        ·exact zak rfl rfl (oT rfl) (oT rfl) (fun w => zdg w _ _ (k) (by omega))
        ·intro w' hb
         simp only [fin, sI, forall_eq]
         simp only [pcX]
         have hR' := zaj HR.out hb HR.out.lt
         have hck : H k + s2.get k = comp H m k := by
          unfold comp
          rw [HS2.out, ← Hs2.out, h64]
         refine zdf (v := wv (comp H m k)) rfl rfl rfl (congrArg wv hck) (zf1 w' _ _ _ (hR'.cell (by omega)) (hR'.frozen _)) ?_
         have hR2 : (w'.setCell ⟨g, o + k, none⟩ (wv (comp H m k))).rowIs g t0 N (fun j => if o ≤ j ∧ j < o + (k + 1) then wv (comp H m (j - o)) else F j) :=
          (hR'.set (o + k) _).congr (fun j _ => by
           by_cases e : j = o + k
           ·subst e; rw [if_pos rfl, if_pos (by omega), show o + k - o = k by omega]
           ·rw [if_neg e]
            by_cases e2 : o ≤ j ∧ j < o + k
            ·rw [if_pos e2, if_pos (by omega)]
            ·rw [if_neg e2, if_neg (by omega)])
         have hg2 : w.grownBy (w'.setCell ⟨g, o + k, none⟩ (wv (comp H m k))) (some g) := zbv (zir Hgr.out (zgm hb (some g))) (.inl rfl) _
         generalize w'.setCell ⟨g, o + k, none⟩ (wv (comp H m k)) = w3 at *
         have HR2 := Hd hR2
         have HG2 := Hd hg2
         clear hR2 hg2 hR' hb hck
         go_wp2_with fail
         go_roundw
         case rel => exact ⟨k + 1, by omega, by go_num, HR2.out, HG2.out⟩
         case measure => simp [intOf]; omega
       ·obtain rfl : k = 8 := by omega
        go_wp2_with fail
        simp only [Exit.jump]
        go_end0
        exact ⟨rfl, hR, hgr⟩
 ·intro again
  go_wp2_with fail
  go_loopw [22] (fun i wr => ∃ k : Nat, k ≤ 16 ∧ i = .int .i64 k ∧ wr.rowIs w.heap.size 142 16 (fun j => if j < k then wv (word m j) else wv 0) ∧ Below w.heap.size w wr) (fun i _ => 16 - (intOf i).toNat)
  case atStart => exact ⟨0, Nat.zero_le _, rfl, (World.rowIs_alloc w _ _ (fun _ => wv 0) (fun i hi => by
   have hi : i < 16 := hi
   match i, hi with
   | 0, _ | 1, _ | 2, _ | 3, _ | 4, _ | 5, _ | 6, _ | 7, _ | 8, _ | 9, _ | 10, _ | 11, _ | 12, _ | 13, _ | 14, _ | 15, _ => rfl
   | n + 16, h => omega)).congr (fun i _ => by simp), (Below.refl _ _).alloc lR _⟩
  case round =>
   obtain ⟨k, hk, rfl, hW, hbel⟩ := hrel
   by_cases hk16 : k < 16
   ·have hr := hb.below (hbel.mono hB)
    obtain ⟨ad, hA, hbl, c0⟩ := hr.at_ (k := 4 * k) (by omega)
    subst hA
    have C0 := Hd c0
    have C1 := Hd (hr.cell_ (k := 4 * k + 1) (by omega))
    have C2 := Hd (hr.cell_ (k := 4 * k + 2) (by omega))
    have C3 := Hd (hr.cell_ (k := 4 * k + 3) (by omega))
    have hadB : ad.block < wr.heap.size := Nat.lt_of_lt_of_le hbl (lT hB hbel.size)
    have b0 := hm (4 * k)
    have b1 := hm (4 * k + 1)
    have b2 := hm (4 * k + 2)
    have b3 := hm (4 * k + 3)
    have HW := Hd hW
    have Hbel := Hd hbel
    clear hW hbel hb hm hr c0
    go_wp2_with fail
    refine zc7 (l := [_, _, _, _, _, _, _, _, _, _, _, _, _, _, _, _, _, _, _, _, _, _, _, _, _, _, _, _, _, _, _, _, _, _, _]) (B := wr.heap.size) (w0 := wr) [sI (.int .i64 ((k : Nat) : Int)), sI (.slice (some ad) n c), sI (.int .i64 ((k : Nat) : Int)), sI (.int .i64 ((4 * k : Nat) : Int)), sI (.pointer (some (ad.add (4 * k)))), sI (.int .u8 ((m (4 * k) : Nat) : Int)), sI (wv (BitVec.ofNat 32 (m (4 * k)))), sI (wv ((BitVec.ofNat 32 (m (4 * k))) <<< (24 : Nat))), sI (.slice (some ad) n c), sI (.int .i64 ((k : Nat) : Int)), sI (.int .i64 ((4 * k : Nat) : Int)), sI (.int .i64 (((4 * k) + (1) : Nat) : Int)), sI (.pointer (some (ad.add (4 * k + 1)))), sI (.int .u8 ((m (4 * k + 1) : Nat) : Int)), sI (wv (BitVec.ofNat 32 (m (4 * k + 1)))), sI (wv ((BitVec.ofNat 32 (m (4 * k + 1))) <<< (16 : Nat))), sI (wv (((BitVec.ofNat 32 (m (4 * k))) <<< (24 : Nat)) ||| ((BitVec.ofNat 32 (m (4 * k + 1))) <<< (16 : Nat)))), sI (.slice (some ad) n c), sI (.int .i64 ((k : Nat) : Int)), sI (.int .i64 ((4 * k : Nat) : Int)), sI (.int .i64 (((4 * k) + (2) : Nat) : Int)), sI (.pointer (some (ad.add (4 * k + 2)))), sI (.int .u8 ((m (4 * k + 2) : Nat) : Int)), sI (wv (BitVec.ofNat 32 (m (4 * k + 2)))), sI (wv ((BitVec.ofNat 32 (m (4 * k + 2))) <<< (8 : Nat))), sI (wv ((((BitVec.ofNat 32 (m (4 * k))) <<< (24 : Nat)) ||| ((BitVec.ofNat 32 (m (4 * k + 1))) <<< (16 : Nat))) ||| ((BitVec.ofNat 32 (m (4 * k + 2))) <<< (8 : Nat)))), sI (.slice (some ad) n c), sI (.int .i64 ((k : Nat) : Int)), sI (.int .i64 ((4 * k : Nat) : Int)), sI (.int .i64 (((4 * k) + (3) : Nat) : Int)), sI (.pointer (some (ad.add (4 * k + 3)))), sI (.int .u8 ((m (4 * k + 3) : Nat) : Int)), sI (wv (BitVec.ofNat 32 (m (4 * k + 3)))), sI (wv (((((BitVec.ofNat 32 (m (4 * k))) <<< (24 : Nat)) ||| ((BitVec.ofNat 32 (m (4 * k + 1))) <<< (16 : Nat))) ||| ((BitVec.ofNat 32 (m (4 * k + 2))) <<< (8 : Nat))) ||| (BitVec.ofNat 32 (m (4 * k + 3))))), sI (.pointer (some ⟨w.heap.size, 0 + (k), none⟩))] (by kernel_rfl) (by kernel_rfl) rfl lR (Below.refl _ _) ⟨?_, ?_, ?_, ?_, ?_, ?_, ?_, ?_, ?_, ?_, ?_, ?_, ?_, ?_, ?_, ?_, ?_, ?_, ?_, ?_, ?_, ?_, ?_, ?_, ?_, ?_, ?_, ?_, ?_, ?_, ?_, ?_, ?_, ?_, ?_, trivial⟩ ?_
    ·exact (zaa _ rfl (.inl rfl) rfl)
    ·exact (zaa _ rfl (.inl rfl) rfl)
    ·exact (zaa _ rfl (.inl rfl) rfl)
    ·exact zbn _ _ (by omega) rfl rfl (OpK.const) (oT rfl)
    ·exact zak rfl rfl (oT rfl) (oT rfl) (fun w => zco w ad n c (4 * k) (by omega))
    ·exact zad rfl rfl (oT rfl) (fun w' hb => zel w' _ _ ((hb.cell (by rw [za7]; exact hadB)).trans C0.out))
    ·exact zdp _ b0 Ty5 Ty112 rfl rfl (oT rfl)
    ·exact zey _ 24 (by omega) rfl rfl (oT rfl)
    ·exact (zaa _ rfl (.inl rfl) rfl)
    ·exact (zaa _ rfl (.inl rfl) rfl)
    ·exact zbn _ _ (by omega) rfl rfl (OpK.const) (oT rfl)
    ·exact zcc _ _ (by omega) rfl rfl (oT rfl) (OpK.const)
    ·exact zak rfl rfl (oT rfl) (oT rfl) (fun w => zco w ad n c (4 * k + 1) (by omega))
    ·exact zad rfl rfl (oT rfl) (fun w' hb => zel w' _ _ ((hb.cell (by rw [za7]; exact hadB)).trans C1.out))
    ·exact zdp _ b1 Ty5 Ty112 rfl rfl (oT rfl)
    ·exact zey _ 16 (by omega) rfl rfl (oT rfl)
    ·exact zfw _ _ rfl rfl (oT rfl) (oT rfl)
    ·exact (zaa _ rfl (.inl rfl) rfl)
    ·exact (zaa _ rfl (.inl rfl) rfl)
    ·exact zbn _ _ (by omega) rfl rfl (OpK.const) (oT rfl)
    ·exact zcc _ _ (by omega) rfl rfl (oT rfl) (OpK.const)
    ·exact zak rfl rfl (oT rfl) (oT rfl) (fun w => zco w ad n c (4 * k + 2) (by omega))
    ·exact zad rfl rfl (oT rfl) (fun w' hb => zel w' _ _ ((hb.cell (by rw [za7]; exact hadB)).trans C2.out))
    ·exact zdp _ b2 Ty5 Ty112 rfl rfl (oT rfl)
    ·exact zey _ 8 (by omega) rfl rfl (oT rfl)
    ·exact zfw _ _ rfl rfl (oT rfl) (oT rfl)
    ·exact (zaa _ rfl (.inl rfl) rfl)
    ·exact (zaa _ rfl (.inl rfl) rfl)
    ·exact zbn _ _ (by omega) rfl rfl (OpK.const) (oT rfl)
    ·exact zcc _ _ (by omega) rfl rfl (oT rfl) (OpK.const)
    ·exact zak rfl rfl (oT rfl) (oT rfl) (fun w => zco w ad n c (4 * k + 3) (by omega))
    ·exact zad rfl rfl (oT rfl) (fun w' hb => zel w' _ _ ((hb.cell (by rw [za7]; exact hadB)).trans C3.out))
    ·exact zdp _ b3 Ty5 Ty112 rfl rfl (oT rfl)
    ·exact zfw _ _ rfl rfl (oT rfl) (oT rfl)
    ·exact zak rfl rfl (oT rfl) (oT rfl) (fun w => zff w _ _ (k) (by omega))
    ·intro w' hb
     simp only [fin, sI, forall_eq]
     simp only [pcX]
     have hW' := zaj HW.out hb HW.out.lt
     refine zdf (v := wv (word m k)) rfl rfl rfl rfl (zf1 w' _ _ _ (by rw [Nat.zero_add]; exact hW'.cell hk16) (hW'.frozen _)) ?_
     go_wp2_with fail
     go_roundw
     case rel => exact ⟨k + 1, by omega, by go_num, (hW'.set k _).congr (fun j _ => by
      by_cases e : j = k
      ·subst e; rw [if_pos rfl, if_pos (by omega)]
      ·rw [if_neg e]
       by_cases e2 : j < k
       ·rw [if_pos e2, if_pos (by omega)]
       ·rw [if_neg e2, if_neg (by omega)]), (Hbel.out.trans (hb.mono Hbel.out.size)).setCell lR _⟩
     case measure => simp [intOf]; omega
   ·obtain rfl : k = 16 := by omega
    have hgB : g < wr.heap.size := Nat.lt_of_lt_of_le hglt hbel.size
    have hH : ∀ i, i < 8 → wr.cell? ⟨g, o + i, none⟩ = some (wv (H i)) := fun i hi => (hbel.cell (p := ⟨g, o + i, none⟩) hglt).trans (HH.out i hi)
    have HH2 := Hd hH
    have HW := Hd hW
    have Hbel := Hd hbel
    clear hW hbel hb hm hH
    go_wp2_with fail
    have hH := HH2.out
    refine zb3 (B := wr.heap.size) (w0 := wr) [sI (.pointer (some ⟨g, o, none⟩)), sI (.pointer (some ⟨g, o, none⟩)), sI (.pointer (some ⟨g, o + (0), none⟩)), sI (wv (H 0)), sI (.pointer (some ⟨g, o, none⟩)), sI (.pointer (some ⟨g, o, none⟩)), sI (.pointer (some ⟨g, o + (1), none⟩)), sI (wv (H 1)), sI (.pointer (some ⟨g, o, none⟩)), sI (.pointer (some ⟨g, o, none⟩)), sI (.pointer (some ⟨g, o + (2), none⟩)), sI (wv (H 2)), sI (.pointer (some ⟨g, o, none⟩)), sI (.pointer (some ⟨g, o, none⟩)), sI (.pointer (some ⟨g, o + (3), none⟩)), sI (wv (H 3)), sI (.pointer (some ⟨g, o, none⟩)), sI (.pointer (some ⟨g, o, none⟩)), sI (.pointer (some ⟨g, o + (4), none⟩)), sI (wv (H 4)), sI (.pointer (some ⟨g, o, none⟩)), sI (.pointer (some ⟨g, o, none⟩)), sI (.pointer (some ⟨g, o + (5), none⟩)), sI (wv (H 5)), sI (.pointer (some ⟨g, o, none⟩)), sI (.pointer (some ⟨g, o, none⟩)), sI (.pointer (some ⟨g, o + (6), none⟩)), sI (wv (H 6)), sI (.pointer (some ⟨g, o, none⟩)), sI (.pointer (some ⟨g, o, none⟩)), sI (.pointer (some ⟨g, o + (7), none⟩)), sI (wv (H 7)), sI (wv (H 0)), sI (wv (H 1)), sI (wv (H 2)), sI (wv (H 3)), sI (wv (H 4)), sI (wv (H 5)), sI (wv (H 6)), sI (wv (H 7))] (by kernel_rfl) (by kernel_rfl) rfl lR (Below.refl _ _) ⟨?_, ?_, ?_, ?_, ?_, ?_, ?_, ?_, ?_, ?_, ?_, ?_, ?_, ?_, ?_, ?_, ?_, ?_, ?_, ?_, ?_, ?_, ?_, ?_, ?_, ?_, ?_, ?_, ?_, ?_, ?_, ?_, ?_, ?_, ?_, ?_, ?_, ?_, ?_, ?_, trivial⟩ ?_
    ·exact (zaa _ rfl (.inl rfl) rfl)
    ·exact zar _ rfl rfl (oT rfl)
    ·exact zak rfl rfl (oT rfl) (OpK.const) (fun w => zdg w _ _ (0) (by omega))
    ·exact zad rfl rfl (oT rfl) (fun w' hb => zbj w' _ _ ((hb.cell hgB).trans (hH 0 (by omega))))
    ·exact (zaa _ rfl (.inl rfl) rfl)
    ·exact zar _ rfl rfl (oT rfl)
    ·exact zak rfl rfl (oT rfl) (OpK.const) (fun w => zdg w _ _ (1) (by omega))
    ·exact zad rfl rfl (oT rfl) (fun w' hb => zbj w' _ _ ((hb.cell hgB).trans (hH 1 (by omega))))
    ·exact (zaa _ rfl (.inl rfl) rfl)
    ·exact zar _ rfl rfl (oT rfl)
    ·exact zak rfl rfl (oT rfl) (OpK.const) (fun w => zdg w _ _ (2) (by omega))
    ·exact zad rfl rfl (oT rfl) (fun w' hb => zbj w' _ _ ((hb.cell hgB).trans (hH 2 (by omega))))
    ·exact (zaa _ rfl (.inl rfl) rfl)
    ·exact zar _ rfl rfl (oT rfl)
    ·exact zak rfl rfl (oT rfl) (OpK.const) (fun w => zdg w _ _ (3) (by omega))
    ·exact zad rfl rfl (oT rfl) (fun w' hb => zbj w' _ _ ((hb.cell hgB).trans (hH 3 (by omega))))
    ·exact (zaa _ rfl (.inl rfl) rfl)
    ·exact zar _ rfl rfl (oT rfl)
    ·exact zak rfl rfl (oT rfl) (OpK.const) (fun w => zdg w _ _ (4) (by omega))
    ·exact zad rfl rfl (oT rfl) (fun w' hb => zbj w' _ _ ((hb.cell hgB).trans (hH 4 (by omega))))
    ·exact (zaa _ rfl (.inl rfl) rfl)
    ·exact zar _ rfl rfl (oT rfl)
    ·exact zak rfl rfl (oT rfl) (OpK.const) (fun w => zdg w _ _ (5) (by omega))
    ·exact zad rfl rfl (oT rfl) (fun w' hb => zbj w' _ _ ((hb.cell hgB).trans (hH 5 (by omega))))
    ·exact (zaa _ rfl (.inl rfl) rfl)
    ·exact zar _ rfl rfl (oT rfl)
    ·exact zak rfl rfl (oT rfl) (OpK.const) (fun w => zdg w _ _ (6) (by omega))
    ·exact zad rfl rfl (oT rfl) (fun w' hb => zbj w' _ _ ((hb.cell hgB).trans (hH 6 (by omega))))
    ·exact (zaa _ rfl (.inl rfl) rfl)
    ·exact zar _ rfl rfl (oT rfl)
    ·exact zak rfl rfl (oT rfl) (OpK.const) (fun w => zdg w _ _ (7) (by omega))
    ·exact zad rfl rfl (oT rfl) (fun w' hb => zbj w' _ _ ((hb.cell hgB).trans (hH 7 (by omega))))
    ·exact (zaa _ rfl (.inr rfl) rfl)
    ·exact (zaa _ rfl (.inr rfl) rfl)
    ·exact (zaa _ rfl (.inr rfl) rfl)
    ·exact (zaa _ rfl (.inr rfl) rfl)
    ·exact (zaa _ rfl (.inr rfl) rfl)
    ·exact (zaa _ rfl (.inr rfl) rfl)
    ·exact (zaa _ rfl (.inr rfl) rfl)
    ·exact (zaa _ rfl (.inr rfl) rfl)
    ·intro w' hb
     simp only [fin, sI, forall_eq]
     simp only [pcX]
     clear hH
     have b6 := hb
     clear hb
     go_wp2_with fail
     go_step3
     rename_i K1 hK1
     refine hK1 _ _ (again _ _ ⟨0, S8.of H, by omega, rfl, (zaj HW.out b6 HW.out.lt).congr (fun j hj => ?_), Hbel.out.trans (b6.mono Hbel.out.size), rfl, rfl, rfl, rfl, rfl, rfl, rfl, rfl, rfl, rfl, rfl, rfl, rfl, rfl⟩)
     rw [if_pos hj]
     unfold ring
     rw [show 0 + (j + 16 - 0 % 16) % 16 = j by omega, zte _ _ hj]

structure ShaPkg (w : World) : Prop where
 start : ∀ i, i < 8 → w.cell? ⟨0, i, none⟩ = some (wv (h0 i))
 round : ∀ i, i < 64 → w.cell? ⟨1, i, none⟩ = some (wv (kw i))
theorem ShaPkg.lt {w : World} (h : ShaPkg w) : 0 < w.heap.size ∧ 1 < w.heap.size := by
 have h1 := h.start 0 (by omega)
 have h2 := h.round 0 (by omega)
 exact ⟨zez h1, zez h2⟩
theorem ShaPkg.keep {w w' : World} (h : ShaPkg w) (hk : ∀ b, b < w.heap.size → (b = 0 ∨ b = 1) → w'.heap[b]? = w.heap[b]?) : ShaPkg w' := by
 have hl := h.lt
 exact ⟨fun i hi => (World.cell?_of_block (a := ⟨0, i, none⟩) (hk _ hl.1 (.inl rfl))).trans (h.start i hi), fun i hi => (World.cell?_of_block (a := ⟨1, i, none⟩) (hk _ hl.2 (.inr rfl))).trans (h.round i hi)⟩
theorem ShaPkg.below {w w' : World} (h : ShaPkg w) (hb : Below w.heap.size w w') : ShaPkg w' := h.keep fun b hb' _ => hb.block b hb'

abbrev u8v (f : Nat → Nat) : Nat → Value := fun i => .int .u8 ((f i : Nat) : Int)
theorem i24 : (Tryd.prog.info? 24).map (fun i => (i.zero, i.size, i.bytes)) = some (some (.agg (Array.replicate 32 (.int .u8 0))), 32, 32) := by kernel_rfl
theorem s24 : (Tryd.prog.info? 24).map (·.size) = some 32 := by kernel_rfl
theorem z24 : (Tryd.prog.info? 24).bind (·.zero) = some (.agg (Array.replicate 32 (.int .u8 0))) := by kernel_rfl
theorem n24 : (Array.replicate 32 (Value.int .u8 0)).size = 32 := by rfl
theorem f24 : ∀ i, i < 32 → (Array.replicate 32 (Value.int .u8 0))[i]? = some (u8v (fun _ => 0) i) := zbg 32 (.int .u8 0)
abbrev rootV (f : Nat → Nat) : Value := .agg (arr 32 (u8v f))
theorem zvq (H : Nat → W32) (k : Nat) : Value.int .u8 (((H k).toNat : Int) / 16777216) = .int .u8 ((rootOf H (4 * k) : Nat) : Int) := by
 have h := (H k).isLt
 have e : rootOf H (4 * k) = (H k).toNat / 16777216 := by
  unfold rootOf
  rw [show 4 * k / 4 = k by omega, show 24 - 8 * (4 * k % 4) = 24 by omega, BitVec.toNat_ushiftRight, Nat.shiftRight_eq_div_pow]
  omega
 rw [e]; congr 1
theorem zvr (H : Nat → W32) (k : Nat) : Value.int .u8 (((H k).toNat : Int) / 65536 % 256) = .int .u8 ((rootOf H (4 * k + 1) : Nat) : Int) := by
 have e : rootOf H (4 * k + 1) = (H k).toNat / 65536 % 256 := by
  unfold rootOf
  rw [show (4 * k + 1) / 4 = k by omega, show 24 - 8 * ((4 * k + 1) % 4) = 16 by omega, BitVec.toNat_ushiftRight, Nat.shiftRight_eq_div_pow]
 rw [e]; congr 1
theorem zvs (H : Nat → W32) (k : Nat) : Value.int .u8 (((H k).toNat : Int) / 256 % 256) = .int .u8 ((rootOf H (4 * k + 2) : Nat) : Int) := by
 have e : rootOf H (4 * k + 2) = (H k).toNat / 256 % 256 := by
  unfold rootOf
  rw [show (4 * k + 2) / 4 = k by omega, show 24 - 8 * ((4 * k + 2) % 4) = 8 by omega, BitVec.toNat_ushiftRight, Nat.shiftRight_eq_div_pow]
 rw [e]; congr 1
theorem zvt (H : Nat → W32) (k : Nat) : Value.int .u8 (((H k).toNat : Int) % 256) = .int .u8 ((rootOf H (4 * k + 3) : Nat) : Int) := by
 have e : rootOf H (4 * k + 3) = (H k).toNat % 256 := by
  unfold rootOf
  rw [show (4 * k + 3) / 4 = k by omega, show 24 - 8 * ((4 * k + 3) % 4) = 0 by omega, BitVec.toNat_ushiftRight, Nat.shiftRight_eq_div_pow]
  simp
 rw [e]; congr 1

theorem zru (g o : Nat) (H : Nat → W32) (w : World) (hH : ∀ i, i < 8 → w.cell? ⟨g, o + i, none⟩ = some (wv (H i))) :
 Calls Tryd.prog 59 #[.pointer (some ⟨g, o, none⟩)] w fun e w' => e = .returned (rootV (rootOf H)) ∧ Below w.heap.size w w' := by
 have HH := Hd hH
 have hg : g < w.heap.size := zez (hH 0 (by omega))
 have HS0 := Hd (((HS.nil w).alloc (Array.replicate 32 (.int .u8 0)) 24 32 (u8v fun _ => 0) (by simp) (fun i hi => zpi _ _ i hi)).alloc (Array.replicate 32 (.int .u8 0)) 24 32 (u8v fun _ => 0) (by simp) (fun i hi => zpi _ _ i hi))
 rw [zgw] at HS0
 clear hH
 go_enter Tryd.func59, Tryd.ntmps59
 go_wp2
 go_loopw [7] (fun i wr => ∃ k : Nat, k ≤ 8 ∧ i = .int .i64 k ∧ HS w wr [⟨w.heap.size + 1, 24, 32, u8v fun j => if j < 4 * k then rootOf H j else 0⟩, ⟨w.heap.size, 24, 32, u8v fun _ => 0⟩]) (fun i _ => 8 - (intOf i).toNat)
 case atStart => exact ⟨0, by omega, rfl, HS0.out⟩
 case round =>
  obtain ⟨k, hk, rfl, hs⟩ := hrel
  by_cases hk8 : k < 8
  ·have hc : wr.cell? ⟨g, o + k, none⟩ = some (wv (H k)) := (hs.old lR (by simp)).cell (p := ⟨g, o + k, none⟩) hg |>.trans (HH.out k hk8)
   have hd : ∀ i, i < 32 → wr.cell? ⟨w.heap.size + 1, i, none⟩ = some (u8v (fun j => if j < 4 * k then rootOf H j else 0) i) := fun i hi => hs.cell 0 i rfl hi
   have hf : ∀ i, wr.frozen? ⟨w.heap.size + 1, i, none⟩ = false := fun i => hs.frozen 0 i rfl
   have hd0 := hd (4 * k) (by omega)
   have hd1 := hd (4 * k + 1) (by omega)
   have hd2 := hd (4 * k + 2) (by omega)
   have hd3 := hd (4 * k + 3) (by omega)
   have HSx := Hd hs
   clear hs hd
   go_wp2
   go_quiet (fail)
   go_wp2
   go_roundw
   case rel =>
    refine ⟨k + 1, by omega, by go_num, ?_⟩
    rw [zvq, zvr, zvs, zvt]
    refine (((((HSx.out.drewN _).set 0 (4 * k) rfl _).set 0 (4 * k + 1) rfl _).set 0 (4 * k + 2) rfl _).set 0 (4 * k + 3) rfl _).congr 0 rfl (fun j _ => ?_)
    by_cases e3 : j = 4 * k + 3
    ·subst e3; simp [u8v, show 4 * k + 3 < 4 * (k + 1) by omega]
    ·by_cases e2 : j = 4 * k + 2
     ·subst e2; simp [u8v, show 4 * k + 2 < 4 * (k + 1) by omega]
     ·by_cases e1 : j = 4 * k + 1
      ·subst e1; simp [u8v, show 4 * k + 1 < 4 * (k + 1) by omega]
      ·by_cases e0 : j = 4 * k
       ·subst e0; simp [u8v, show 4 * k < 4 * (k + 1) by omega]
       ·by_cases e : j < 4 * k
        ·simp [u8v, e, e0, e1, e2, e3, show j < 4 * (k + 1) by omega]
        ·simp [u8v, e, e0, e1, e2, e3, show ¬ j < 4 * (k + 1) by omega]
   case measure => simp [intOf]; omega
  ·obtain rfl : k = 8 := by omega
   have HSx := Hd hs
   obtain ⟨cz, hcz, hzs, hzc⟩ := hs.heap 1 rfl
   have HR := Hd (hs.row 1 rfl)
   have HX := Hd (zex (hs.row 0 rfl))
   clear hs hcz hzs hzc
   go_wp2_with (first
    | (refine wpList_load_row rfl 24 (.tmp 3) rfl (w.heap.size + 1) rfl 24 _ _ _ HX.out Ty24 rfl s24 ?_)
    | (refine zcb rfl 24 (.tmp 2) (.tmp 40) rfl HR.out _ rfl rfl (zam _ _) (by kernel_rfl) (fun i hi => ⟨_, zaq _ _ i hi, rfl⟩) ?_))
   have hend := HSx.out.setRow 1 rfl (arr 32 (u8v fun j => if j < 32 then rootOf H j else 0)) (zam _ _) _ (fun i hi => zaq _ _ i hi)
   refine za5 rfl (hend.row 1 rfl) _ rfl Ty24 rfl s24 rfl ⟨?_, hend.out (by simp)⟩
   rw [zca (g := u8v (rootOf H)) (fun i hi => by simp [u8v, hi])]

theorem ztf (H : Nat → W32) : ∀ i, i < 8 → (#[wv (H 0), wv (H 1), wv (H 2), wv (H 3), wv (H 4), wv (H 5), wv (H 6), wv (H 7)] : Array Value)[i]? = some (wv (H i)) := by
 intro i hi
 match i, hi with
 | 0, _ | 1, _ | 2, _ | 3, _ | 4, _ | 5, _ | 6, _ | 7, _ => rfl

theorem ztg : ∀ i, i < 8 → (#[wv (h0 0), wv (h0 1), wv (h0 2), wv (h0 3), wv (h0 4), wv (h0 5), wv (h0 6), wv (h0 7)] : Array Value)[i]? = some (wv (h0 i)) := by
 intro i hi
 match i, hi with
 | 0, _ | 1, _ | 2, _ | 3, _ | 4, _ | 5, _ | 6, _ | 7, _ => rfl
theorem padOf (m : Nat → Nat) : ∀ i, i < 64 → (if i = 62 then 2 else if i = 0 then 128 else 0 : Nat) = blk (padF 64 m) 1 i := by
 intro i hi
 unfold blk padF
 rw [if_neg (show ¬ 64 * 1 + i < 64 by omega)]
 by_cases e : i = 0
 ·subst e; simp
 ·rw [if_neg (show ¬ 64 * 1 + i = 64 by omega), if_neg (show ¬ i = 0 from e)]
  by_cases e2 : i = 62
  ·subst e2; decide
  ·rw [if_neg e2]
   by_cases e3 : i = 63
   ·subst e3; decide
   ·by_cases e4 : 64 * 1 + i < 64 * nb 64 - 8
    ·rw [if_pos e4]
    ·rw [if_neg e4]
     have : i = 56 ∨ i = 57 ∨ i = 58 ∨ i = 59 ∨ i = 60 ∨ i = 61 := by
      have : nb 64 = 2 := rfl
      omega
     rcases this with rfl | rfl | rfl | rfl | rfl | rfl <;> decide

theorem zem (x y : Nat → Nat) (hx : ∀ i, x i < 256) (hy : ∀ i, y i < 256) (w : World) (hp : ShaPkg w) :
 Calls Tryd.prog 33 #[rootV x, rootV y] w fun e w' => e = .returned (rootV (shaB (catN 32 x y) 64)) ∧ Below w.heap.size w w' := by
 have HP := Hd hp
 clear hp
 obtain ⟨M, hMd⟩ : ∃ M, M = padF 64 (catN 32 x y) := ⟨_, rfl⟩
 have hM : ∀ i, M i < 256 := fun i => by rw [hMd]; exact zny _ _ (zbo hx hy) i
 have hres : shaB (catN 32 x y) 64 = rootOf (Hs M 2) := by rw [hMd]; rfl
 have pad_cells : ∀ f : Nat → Value, (∀ j, j < 64 → f j = .int .u8 0) → ∀ j, j < 64 → (if j = 62 then .int .u8 2 else if j = 0 then .int .u8 128 else f j) = u8v (blk M 1) j := fun f hf j hj => by
  rw [hMd, hf j hj]; show _ = Value.int .u8 ((blk _ 1 j : Nat) : Int)
  rw [← padOf (catN 32 x y) j hj]
  by_cases e : j = 62
  ·subst e; rfl
  ·rw [if_neg e, if_neg e]
   by_cases e2 : j = 0
   ·subst e2; rfl
   ·rw [if_neg e2, if_neg e2]; rfl
 have both_cells : ∀ f : Nat → Value, ∀ j, j < 64 → (if 32 ≤ j ∧ j < 32 + 32 then u8v y (j - 32) else if 0 ≤ j ∧ j < 0 + 32 then u8v x (j - 0) else f j) = u8v (blk M 0) j := fun f j hj => by
  have hb : blk M 0 j = catN 32 x y j := by
   rw [hMd]; unfold blk padF; rw [if_pos (by omega), show 64 * 0 + j = j by omega]
  show _ = Value.int .u8 ((blk M 0 j : Nat) : Int)
  rw [hb]
  unfold catN
  by_cases e : j < 32
  ·rw [if_neg (by omega), if_pos (by omega), if_pos e]; rfl
  ·rw [if_pos (by omega), if_neg e]
 rw [hres]
 have HB := Hd both_cells
 have HD := Hd pad_cells
 clear both_cells pad_cells hres hMd
 go_enter Tryd.func33, Tryd.ntmps33
 go_wp2
 refine HS.go (w0 := w) (rows := [⟨w.heap.size + 4, 111, 64, u8v fun _ => 0⟩, ⟨w.heap.size + 3, 111, 64, u8v fun _ => 0⟩, ⟨w.heap.size + 2, 24, 32, u8v fun _ => 0⟩, ⟨w.heap.size + 1, 24, 32, u8v y⟩, ⟨w.heap.size, 24, 32, u8v x⟩])
   (by
    have h := (((((HS.nil w).alloc (arr 32 (u8v x)) 24 32 _ (zam _ _) (zaq _ _)).alloc (arr 32 (u8v y)) 24 32 _ (zam _ _) (zaq _ _)).alloc (Array.replicate 32 (.int .u8 0)) 24 32 _ (by simp) (zbg 32 _)).alloc (Array.replicate 64 (.int .u8 0)) 111 64 _ (by simp) (zbg 64 _)).alloc (Array.replicate 64 (.int .u8 0)) 111 64 _ (by simp) (zbg 64 _)
    simp only [zgw] at h
    exact h) (fun wr hs => ?_)
 refine zao (l := [_, _]) (tl := []) (B := wr.heap.size) (w0 := wr) [sI (.slice (some ⟨w.heap.size + 3, 0, none⟩) (32) (64)), sI (.slice (some ⟨w.heap.size, 0, none⟩) (32) (32))] (by kernel_rfl) (by kernel_rfl) rfl lR (Below.refl _ _) ⟨?_, ?_, trivial⟩ ?_
 ·exact zbe rfl rfl (oT rfl) (OpKo.no) (OpKo.const) (fun w => zbp Tryd.underlying111 1 (by kernel_rfl) none (some _) (0) (32) (.inl ⟨rfl, rfl⟩) (.inr rfl) (by omega) (by omega) (by omega) (by omega) (by omega) (by omega))
 ·exact zbe rfl rfl (oT rfl) (OpKo.no) (OpKo.no) (fun w => zbp Ty24 1 (by kernel_rfl) none none (0) (32) (.inl ⟨rfl, rfl⟩) (.inl ⟨rfl, rfl⟩) (by omega) (by omega) (by omega) (by omega) (by omega) (by omega))
 ·intro w' hb
  simp only [fin, sI, forall_eq]
  simp only [pcX]
  have hs1 := hs.below hb
  refine zg3 rfl Ty39 (by kernel_rfl) (hs1.row 1 rfl) 0 32 64 (Rd.of_row (hs1.row 4 rfl) lR (hs1.lt 4 rfl)) (fun _ _ => rfl) 32 rfl (show _ ≤ 64 by decide) rfl rfl (fun w1 hr hg => ?_)
  have hs2 := hs1.write 1 rfl hg hr
  clear hs hs1 hb hr hg
  simp only [seqWp]
  have HS2 := Hd hs2
  clear hs2
  go_wp2_with fail
  have hs := HS2.out
  clear HS2
  refine zao (l := [_, _]) (tl := []) (B := w1.heap.size) (w0 := w1) [sI (.slice (some ⟨w.heap.size + 3, 32, none⟩) (32) (32)), sI (.slice (some ⟨w.heap.size + 1, 0, none⟩) (32) (32))] (by kernel_rfl) (by kernel_rfl) rfl lR (Below.refl _ _) ⟨?_, ?_, trivial⟩ ?_
  ·exact zbe rfl rfl (oT rfl) (OpKo.const) (OpKo.no) (fun w => zbp Tryd.underlying111 1 (by kernel_rfl) (some _) none (32) (64) (.inr rfl) (.inl ⟨rfl, rfl⟩) (by omega) (by omega) (by omega) (by omega) (by omega) (by omega))
  ·exact zbe rfl rfl (oT rfl) (OpKo.no) (OpKo.no) (fun w => zbp Ty24 1 (by kernel_rfl) none none (0) (32) (.inl ⟨rfl, rfl⟩) (.inl ⟨rfl, rfl⟩) (by omega) (by omega) (by omega) (by omega) (by omega) (by omega))
  ·intro w' hb
   simp only [fin, sI, forall_eq]
   simp only [pcX]
   have hs1 := hs.below hb
   refine zg3 rfl Ty39 (by kernel_rfl) (hs1.row 1 rfl) 32 32 32 (Rd.of_row (hs1.row 3 rfl) lR (hs1.lt 3 rfl)) (fun _ _ => rfl) 32 rfl (show _ ≤ 64 by decide) rfl rfl (fun w2 hr hg => ?_)
   have hs2 := hs1.write 1 rfl hg hr
   have hsz2 : w.heap.size ≤ w2.heap.size := hs2.size
   clear hs hs1 hb hr hg
   simp only [seqWp]
   have HS2 := Hd hs2
   have c0 := hs2.cell 0 0 rfl (by omega)
   have c62 := hs2.cell 0 62 rfl (by omega)
   have f0 := hs2.frozen 0 0 rfl
   have f62 := hs2.frozen 0 62 rfl
   clear hs2
   go_wp2_with (first
    | (refine zag rfl 113 (.global 0) rfl 0 0 8 (fun i => wv (h0 i)) rfl _ (by intro i hi; rw [Nat.zero_add]; exact (HP.out.below (((HS2.out.set 0 0 rfl _).set 0 62 rfl _).out (by simp))).start i hi) Ty113 rfl (by kernel_rfl) #[wv (h0 0), wv (h0 1), wv (h0 2), wv (h0 3), wv (h0 4), wv (h0 5), wv (h0 6), wv (h0 7)] rfl ?_))
   refine HS.goC (w0 := w) (rows := [⟨w2.heap.size, 114, 8, fun i => wv (h0 i)⟩, ⟨w.heap.size + 4, 111, 64, u8v (blk M 1)⟩, ⟨w.heap.size + 3, 111, 64, u8v (blk M 0)⟩, ⟨w.heap.size + 2, 24, 32, u8v fun _ => 0⟩, ⟨w.heap.size + 1, 24, 32, u8v y⟩, ⟨w.heap.size, 24, 32, u8v x⟩])
     (by exact ((((HS2.out.set 0 0 rfl _).set 0 62 rfl _).congr 0 rfl (g := u8v (blk M 1)) (fun j hj => HD.out _ (fun _ _ => rfl) j hj)).congr 1 rfl (g := u8v (blk M 0)) (fun j hj => HB.out _ j hj)).allocB _ _ _ 8 _ rfl ztg (by simp)) (fun w3 hs => ?_)
   have hpk := HP.out.below (hs.out (by simp [hsz2]))
   have HP3 := Hd hpk
   refine (znz w2.heap.size 0 64 64 w3.heap.size _ 114 8 (fun i => wv (h0 i)) h0 (blk M 0) w3 (hs.row 0 rfl) lR (fun i _ => by rw [Nat.zero_add]) (fun i => hM _) (Rd.of_row (hs.row 2 rfl) lR (hs.lt 2 rfl)) lR lR (by omega) hpk.round).mono ?_
   rintro e w4 ⟨rfl, hr, hg⟩
   have hs4 := (hs.write 0 rfl hg hr).congr 0 rfl (g := fun i => wv (Hs M 1 i)) (fun j hj => by rw [if_pos (by omega)]; rfl)
   have HS4 := Hd hs4
   have HP4 := Hd (HP.out.below (hs4.out (by simp [hsz2])))
   clear hs hr hg hs4 hpk
   simp only []
   go_wp2_with fail
   have hs := HS4.out
   have hpk := HP4.out
   refine (znz w2.heap.size 0 64 64 w4.heap.size _ 114 8 (fun i => wv (Hs M 1 i)) (Hs M 1) (blk M 1) w4 (hs.row 0 rfl) lR (fun i _ => by rw [Nat.zero_add]) (fun i => hM _) (Rd.of_row (hs.row 1 rfl) lR (hs.lt 1 rfl)) lR lR (by omega) hpk.round).mono ?_
   rintro e w5 ⟨rfl, hr, hg⟩
   have hs5 := (hs.write 0 rfl hg hr).congr 0 rfl (g := fun i => wv (Hs M 2 i)) (fun j hj => by rw [if_pos (by omega)]; rfl)
   have HS5 := Hd hs5
   clear hs hr hg hs5 hpk HS4
   simp only []
   go_wp2_with fail
   have hs := HS5.out
   refine (zru w2.heap.size 0 (Hs M 2) w5 (fun i hi => by rw [Nat.zero_add]; exact hs.cell 0 i rfl hi)).mono ?_
   rintro e w6 ⟨rfl, hb⟩
   have hs6 := hs.below hb
   have HS6 := Hd hs6
   have HR := Hd (hs6.row 3 rfl)
   clear hs hb hs6 HS5
   simp only []
   go_wp2_with (refine zcb rfl 24 (.tmp 4) (.tmp 21) rfl HR.out _ rfl rfl (zam _ _) (by kernel_rfl) (fun i hi => ⟨_, zaq _ _ i hi, rfl⟩) ?_)
   have hend := HS6.out.setRow 3 rfl (arr 32 (u8v (rootOf (Hs M 2)))) (zam _ _) _ (fun i hi => zaq _ _ i hi)
   exact za5 rfl (hend.row 3 rfl) _ rfl Ty24 rfl s24 rfl ⟨rfl, hend.out (by simp [hsz2])⟩
end Go.Proofs.YtomilckcgmhfcaaDoor
