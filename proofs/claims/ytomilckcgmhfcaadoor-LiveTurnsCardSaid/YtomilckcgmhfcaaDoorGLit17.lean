/- Lemmas that the proof stands on. -/
import Derived.Test.YtomilckcgmhfcaaDoorGLit16
import Derived.Lib.TrailingZeros
namespace Go.Proofs.YtomilckcgmhfcaaDoor
set_option maxRecDepth 40000
set_option maxHeartbeats 64000000
open Go.RowKit
open MerkleMix in
theorem zgk (v : Nat) (w : World) :
 Calls Tryd.prog 27 #[.int .u64 (v : Int)] w fun e w' => e = .returned (rootV (padN 8 (leB v))) ∧ Below w.heap.size w w' := by
 have HS0 := Hd (HS.nil w)
 go_enter Tryd.func27, Tryd.ntmps27
 go_wp2_with (first
  | ((with_reducible refine at_l ?_); first
   | (refine zac rfl 24 2 rfl rfl HS0.out _ z24 32 (u8v fun _ => 0) n24 f24 ?_; intro b2 w2 hb2 hcb2 hs; have HS2 := Hd hs; clear hs)
   | (refine zac rfl 24 3 rfl rfl HS2.out _ z24 32 (u8v fun _ => 0) n24 f24 ?_; intro b3 w3 hb3 hcb3 hs; have HS3 := Hd hs; clear hs)
   | (refine zac rfl 108 4 rfl rfl HS4.out (Array.replicate 8 (.int .u8 0)) (by kernel_rfl) 8 (u8v fun _ => 0) (by rfl) (zbg 8 (.int .u8 0)) ?_; intro b4 w5 hb4 hcb4 hs; have HS5 := Hd hs; clear hs)
   | (refine zaf rfl 108 (.tmp 4) (.tmp 6) rfl HS5.out 0 rfl (u8v (leB v)) rfl rfl (by kernel_rfl) (fun _ _ => rfl) ?_; intro w6 hs; have HS6 := Hd hs; clear hs))
  | (go_at_call 55; refine (zet v _).mono ?_; rintro e w4 ⟨rfl, hb⟩; have HS4 := Hd (HS3.out.below hb); clear hb))
 refine zao (l := [_, _]) (tl := []) (B := w6.heap.size) (w0 := w6) [sI (.slice (some ⟨b3, 0, none⟩) (32) (32)), sI (.slice (some ⟨b4, 0, none⟩) (8) (8))] (by kernel_rfl) (by kernel_rfl) rfl lR (Below.refl _ _) ⟨?_, ?_, trivial⟩ ?_
 ·exact zbe rfl rfl (oT rfl) (OpKo.no) (OpKo.no) (fun w => zbp Ty24 1 (by kernel_rfl) none none (0) (32) (.inl ⟨rfl, rfl⟩) (.inl ⟨rfl, rfl⟩) (by omega) (by omega) (by omega) (by omega) (by omega) (by omega))
 ·exact zbe rfl rfl (oT rfl) (OpKo.no) (OpKo.no) (fun w => zbp Ty108 1 (by kernel_rfl) none none (0) (8) (.inl ⟨rfl, rfl⟩) (.inl ⟨rfl, rfl⟩) (by omega) (by omega) (by omega) (by omega) (by omega) (by omega))
 ·intro w' hb
  simp only [fin, sI, forall_eq]
  simp only [pcX]
  have hs := HS6.out.below hb
  refine ze2 rfl Ty39 (by kernel_rfl) hs 1 rfl 0 32 32 (Rd.of_row (hs.row 0 rfl) lR (hs.lt 0 rfl)) (fun _ _ => rfl) 8 rfl (by omega) rfl rfl _ (lay8 v) ?_
  clear hs hb
  intro wa hs
  have hA : HS w wa [⟨b4, 108, 8, u8v (leB v)⟩, ⟨b3, 24, 32, u8v (padN 8 (leB v))⟩, ⟨b2, 24, 32, u8v fun _ => 0⟩] := hs
  have HA := Hd hA
  clear hs hA HS2 HS3 HS4 HS5 HS6
  simp only [seqWp]
  go_wp2_with (first
   | ((with_reducible refine at_l ?_); first
    | (refine zae rfl 24 (.tmp 3) rfl 32 _ Ty24 rfl s24 ⟨b3, 0, none⟩ rfl (u8v (padN 8 (leB v))) (fun i hi => by rw [zai]; exact HA.out.cell 1 i rfl hi) ?_)
    | (refine zaf rfl 24 (.tmp 2) (.tmp 10) rfl HA.out 2 rfl (u8v (padN 8 (leB v))) rfl rfl (by kernel_rfl) (fun _ _ => rfl) ?_; intro wy hs; have HY := Hd hs; clear hs)))
  exact za5 rfl (HY.out.row 2 rfl) _ rfl Ty24 rfl s24 rfl ⟨rfl, HY.out.out (by simp; omega)⟩
theorem zgl (n c : Nat) (A : Option Addr) (x : Nat → Nat) (w : World) (hb : Rd w w.heap.size A (n * 32) (u8v x)) (hx : ∀ i, x i < 256) (hnc : n ≤ c) (hl : n ≤ 1099511627776) (hp : ShaPkg w) :
 Calls Tryd.prog 30 #[.slice A n c] w fun e w' => e = .returned (rootV (treeN (dep n) n x)) ∧ Below w.heap.size w w' := by
 have HP := Hd hp
 have HX := Hd hx
 have HR := Hd hb
 have HS0 := Hd (HS.nil w)
 clear hp hx hb
 obtain ⟨X, hX⟩ : ∃ X, X = treeN (dep n) n x := ⟨_, rfl⟩
 rw [← hX]
 have HXe := Hd hX
 clear hX
 go_enter Tryd.func30, Tryd.ntmps30
 go_wp2_with (first
  | ((with_reducible refine at_l ?_); first
   | (refine zac rfl 24 2 rfl rfl HS0.out _ z24 32 (u8v fun _ => 0) n24 f24 ?_; intro b2 w2 hb2 hcb2 hs; have HS2 := Hd hs; clear hs)
   | (refine zac rfl 24 3 rfl rfl HS3.out _ z24 32 (u8v fun _ => 0) n24 f24 ?_; intro b3 w4 hb3 hcb3 hs; have HS4 := Hd hs; clear hs)
   | (refine zaf rfl 24 (.tmp 3) (.tmp 10) rfl HS4.out 0 rfl (u8v X) rfl rfl (by kernel_rfl) (fun _ _ => rfl) ?_; intro w5 hs; have HS5 := Hd hs; clear hs)
   | (refine zae rfl 24 (.tmp 3) rfl 32 _ Ty24 rfl s24 ⟨b3, 0, none⟩ rfl (u8v X) (fun i hi => by rw [zai]; exact HS5.out.cell 0 i rfl hi) ?_)
   | (refine zaf rfl 24 (.tmp 2) (.tmp 12) rfl HS5.out 1 rfl (u8v X) rfl rfl (by kernel_rfl) (fun _ _ => rfl) ?_; intro wy hs; have HY := Hd hs; clear hs))
  | (go_at_call 25; refine (zd8 n c A x n _ ((HR.out.below (HS2.out.out (by simp; omega))).more HS2.out.size) HX.out hnc hl lR (HP.out.below (HS2.out.out (by simp; omega)))).mono ?_; rintro e w3 ⟨rfl, hb⟩; rw [← HXe.out]; have HS3 := Hd (HS2.out.below hb); clear hb))
 exact za5 rfl (HY.out.row 1 rfl) _ rfl Ty24 rfl s24 rfl ⟨rfl, HY.out.out (by simp; omega)⟩
section
variable {P : Program} {ops : Array Oper} {B : Nat} {w0 : World} {o : Oper} {lk : Tmp → SF}
theorem zsh {xo yo : Operand} {ts : Array TypeId} (k : IntKind) (i j m : Int) (hm : m = if j < i then j else i) (hg : o.guard = none) (hop : o.op = .call { callee := .builtin .min, args := #[xo, yo], argTypes := ts }) (hx : OpK lk xo (.int k i)) (hy : OpK lk yo (.int k j)) : opOb P ops B w0 o (sI (.int k m)) lk :=
 zbw _ hg fun a w _ hf => by
  have h1 := hx.eval hf (by rw [hop]; simp [Op.operands, Call.operands])
  have h2 := hy.eval hf (by rw [hop]; simp [Op.operands, Call.operands])
  unfold execOp
  subst hm
  simp only [hop, resolve, invoke, builtin, Sem.run_bind, Sem.run_pure, Result.andThen_ok, List.map_toArray, List.map_cons, List.map_nil, h1, h2]
  simp [Builtin.min_, Builtin.min2, go_sem]
end
namespace LiveSmall
theorem zsi (n k h : Nat) (x : Nat → Nat) (hh : h = min (32 * k + 32) n) : ∀ i, i < 32 → (if 0 ≤ i ∧ i < 0 + (h - 32 * k) then u8v (fun q => x (32 * k + q)) (i - 0) else u8v (fun _ => 0) i) = u8v (fun q => padN n x (k * 32 + q)) i := fun i hi => by
 unfold padN
 by_cases h1 : i < h - 32 * k
 ·rw [if_pos (by omega)]; simp only [u8v]; rw [if_pos (by omega), show 32 * k + (i - 0) = k * 32 + i by omega]
 ·rw [if_neg (by omega)]; simp only [u8v]; rw [if_neg (by omega)]
theorem mulI (a b : Nat) (h : a * b ≤ 9223372036854775807) (w : World) : (binOp .mul 3 (.int .i64 (a : Int)) (.int .i64 (b : Int))).run Tryd.prog w = .ok (.int .i64 ((a * b : Nat) : Int)) w := by
 obtain ⟨m, hm⟩ : ∃ m, m = a * b := ⟨_, rfl⟩
 have h2 : (a : Int) * (b : Int) = (m : Int) := by rw [hm, Int.natCast_mul]
 rw [← hm] at h ⊢
 simp [go_sem, h2, IntKind.wrap, IntKind.bits, IntKind.signed]
 omega
theorem addI (a b : Nat) (h : a + b ≤ 9223372036854775807) (w : World) : (binOp .add 3 (.int .i64 (a : Int)) (.int .i64 (b : Int))).run Tryd.prog w = .ok (.int .i64 ((a + b : Nat) : Int)) w := by
 simp [go_sem, IntKind.wrap, IntKind.bits, IntKind.signed]
 omega
def leS (x : Nat → Nat) : Nat → Nat := fun i => leB (x (i / 8)) (i % 8)
theorem zsj (n k j : Nat) (x : Nat → Nat) (hj : j < min (4 * k + 4) n - 4 * k) : ∀ i, i < 32 → (if 8 * j ≤ i ∧ i < 8 * j + 8 then u8v (leB (x (4 * k + j))) (i - 8 * j) else u8v (fun q => if q < 8 * j then padN (8 * n) (leS x) (k * 32 + q) else 0) i) = u8v (fun q => if q < 8 * (j + 1) then padN (8 * n) (leS x) (k * 32 + q) else 0) i := fun i hi => by
 unfold padN leS
 by_cases h1 : 8 * j ≤ i ∧ i < 8 * j + 8
 ·rw [if_pos h1]; simp only [u8v]; rw [if_pos (by omega), if_pos (by omega), show (k * 32 + i) / 8 = 4 * k + j by omega, show (k * 32 + i) % 8 = i - 8 * j by omega]
 ·rw [if_neg h1]; simp only [u8v]
  by_cases h2 : i < 8 * j
  ·rw [if_pos h2, if_pos (show i < 8 * (j + 1) by omega)]
  ·rw [if_neg h2, if_neg (show ¬ i < 8 * (j + 1) by omega)]
theorem zsk (n k : Nat) (x : Nat → Nat) : ∀ i, i < 32 → u8v (fun q => if q < 8 * (min (4 * k + 4) n - 4 * k) then padN (8 * n) (leS x) (k * 32 + q) else 0) i = u8v (fun q => padN (8 * n) (leS x) (k * 32 + q)) i := fun i hi => by
 simp only [u8v]
 unfold padN
 by_cases h : i < 8 * (min (4 * k + 4) n - 4 * k)
 ·rw [if_pos h]
 ·rw [if_neg h, if_neg (by omega)]
end LiveSmall
open LiveSmall in
theorem zgd (n c k : Nat) (A : Option Addr) (x : Nat → Nat) (w : World) (hb : Rd w w.heap.size A n (u8v x)) (hnc : n ≤ c) (hn : n ≤ 1099511627776) (hk : 32 * k ≤ n) :
 Calls Tryd.prog 65 #[.slice A n c, .int .i64 (k : Int)] w fun e w' => e = .returned (rootV (fun q => padN n x (k * 32 + q))) ∧ Below w.heap.size w w' := by
 have HR := Hd hb
 have HS0 := Hd (HS.nil w)
 obtain ⟨h, hh⟩ : ∃ h, h = min (32 * k + 32) n := ⟨_, rfl⟩
 have hhn : h ≤ n := by omega
 have hhk : 32 * k ≤ h := by omega
 have hh32 : h - 32 * k ≤ 32 := by omega
 have HMin := Hd (show (h : Int) = if (n : Int) < ((32 * k + 32 : Nat) : Int) then (n : Int) else ((32 * k + 32 : Nat) : Int) by split <;> omega)
 obtain ⟨A2, hct⟩ := zkd (P := Tryd.prog) Ty39 (by kernel_rfl) A n c (32 * k) h (some (.int .i64 ((32 * k : Nat) : Int))) (some (.int .i64 (h : Int))) (.inr rfl) (.inr rfl) hhk hhn hnc
 have HCt := Hd hct
 have HL := Hd (zsi n k h x hh)
 clear hb hct hh
 go_enter Tryd.func65, Tryd.ntmps65
 go_wp2_with (first
  | ((with_reducible refine at_l ?_); first
   | (refine zac rfl 24 4 rfl rfl HS0.out _ z24 32 (u8v fun _ => 0) n24 f24 ?_; intro b4 w4 hb4 hcb4 hs; have HS4 := Hd hs; clear hs)
   | (refine zac rfl 24 5 rfl rfl HS4.out _ z24 32 (u8v fun _ => 0) n24 f24 ?_; intro b5 w5 hb5 hcb5 hs; have HS5 := Hd hs; clear hs)))
 refine zao (l := [_, _, _, _, _, _, _, _, _, _, _]) (tl := []) (B := w5.heap.size) (w0 := w5) [sI (.slice (some ⟨b5, 0, none⟩) (32) (32)), sI (.slice (A) (n) (c)), sI (.int .i64 ((k : Nat) : Int)), sI (.int .i64 ((32 * k : Nat) : Int)), sI (.int .i64 ((k : Nat) : Int)), sI (.int .i64 ((32 * k : Nat) : Int)), sI (.int .i64 ((32 * k + 32 : Nat) : Int)), sI (.slice (A) (n) (c)), sI (.int .i64 ((n : Nat) : Int)), sI (.int .i64 ((h : Nat) : Int)), sI (.slice (A2) (h - 32 * k) (c - 32 * k))] (by kernel_rfl) (by kernel_rfl) rfl lR (Below.refl _ _) ⟨?_, ?_, ?_, ?_, ?_, ?_, ?_, ?_, ?_, ?_, ?_, trivial⟩ ?_
 ·exact zbe rfl rfl (oT rfl) (OpKo.no) (OpKo.no) (fun w => zbp Ty24 1 (by kernel_rfl) none none (0) (32) (.inl ⟨rfl, rfl⟩) (.inl ⟨rfl, rfl⟩) (by omega) (by omega) (by omega) (by omega) (by omega) (by omega))
 ·exact (zaa _ rfl (.inl rfl) rfl)
 ·exact (zaa _ rfl (.inl rfl) rfl)
 ·exact zbn 32 k (by omega) rfl rfl OpK.const (oT rfl)
 ·exact (zaa _ rfl (.inl rfl) rfl)
 ·exact zbn 32 k (by omega) rfl rfl OpK.const (oT rfl)
 ·exact zcc (32 * k) 32 (by omega) rfl rfl (oT rfl) OpK.const
 ·exact (zaa _ rfl (.inl rfl) rfl)
 ·exact zcw Ty39 rfl rfl (oT rfl)
 ·exact zsh .i64 ((32 * k + 32 : Nat) : Int) (n : Int) (h : Int) HMin.out rfl rfl (oT rfl) (oT rfl)
 ·exact zbe rfl rfl (oT rfl) (OpKo.tmp rfl) (OpKo.tmp rfl) (fun w => HCt.out.1 w)
 ·intro w' hb
  simp only [fin, sI, forall_eq]
  simp only [pcX]
  have hs := HS5.out.below hb
  have hr0 := (HR.out.below (hs.out (by simp; omega))).short hhn
  refine ze2 rfl Ty39 (by kernel_rfl) hs 0 rfl 0 32 32 (HCt.out.2.rd hr0) (fun _ _ => rfl) (h - 32 * k) (by omega) (by omega) rfl rfl _ HL.out ?_
  clear hs hb hr0
  intro wa hs
  have hA : HS w wa [⟨b5, 24, 32, u8v fun q => padN n x (k * 32 + q)⟩, ⟨b4, 24, 32, u8v fun _ => 0⟩] := hs
  have HA := Hd hA
  clear hs hA HS4 HS5
  simp only [seqWp]
  go_wp2_with (first
   | ((with_reducible refine at_l ?_); first
    | (refine zae rfl 24 (.tmp 5) rfl 32 _ Ty24 rfl s24 ⟨b5, 0, none⟩ rfl (u8v fun q => padN n x (k * 32 + q)) (fun i hi => by rw [zai]; exact HA.out.cell 0 i rfl hi) ?_)
    | (refine zaf rfl 24 (.tmp 4) (.tmp 18) rfl HA.out 1 rfl (u8v fun q => padN n x (k * 32 + q)) rfl rfl (by kernel_rfl) (fun _ _ => rfl) ?_; intro wy hs; have HY := Hd hs; clear hs)))
  exact za5 rfl (HY.out.row 1 rfl) _ rfl Ty24 rfl s24 rfl ⟨rfl, HY.out.out (by simp; omega)⟩
open LiveSmall ShufFn in
theorem zep (n c k : Nat) (A : Option Addr) (x : Nat → Nat) (w : World) (hb : Rd w w.heap.size A n (u64v x)) (hnc : n ≤ c) (hn : n ≤ 1099511627776) (hk : 4 * k ≤ n) :
 Calls Tryd.prog 34 #[.slice A n c, .int .i64 (k : Int)] w fun e w' => e = .returned (rootV (fun q => padN (8 * n) (leS x) (k * 32 + q))) ∧ Below w.heap.size w w' := by
 have HR := Hd hb
 have HS0 := Hd (HS.nil w)
 obtain ⟨h, hh⟩ : ∃ h, h = min (4 * k + 4) n := ⟨_, rfl⟩
 have hhn : h ≤ n := by omega
 have hhk : 4 * k ≤ h := by omega
 obtain ⟨L, hL⟩ : ∃ L, L = h - 4 * k := ⟨_, rfl⟩
 have hL4 : L ≤ 4 := by omega
 have HMin := Hd (show (h : Int) = if (n : Int) < ((4 * k + 4 : Nat) : Int) then (n : Int) else ((4 * k + 4 : Nat) : Int) by split <;> omega)
 obtain ⟨A2, hct⟩ := zkd (P := Tryd.prog) Ty37 (by kernel_rfl) A n c (4 * k) h (some (.int .i64 ((4 * k : Nat) : Int))) (some (.int .i64 (h : Int))) (.inr rfl) (.inr rfl) hhk hhn hnc
 rw [← hL] at hct
 have HCt := Hd hct
 have HRL := Hd (show ∀ wz, Rd wz w.heap.size A n (u64v x) → Rd wz w.heap.size A2 L (fun i => u64v x (4 * k + i)) from fun wz h2 => by rw [hL]; exact hct.2.rd (h2.short hhn))
 have HLay := Hd (fun j (hj : j < L) => zsj n k j x (show j < min (4 * k + 4) n - 4 * k by omega))
 have HEnd := Hd (zsk n k x)
 rw [← hh, ← hL] at HEnd
 clear hb hct hh hL
 go_enter Tryd.func34, Tryd.ntmps34
 go_upto_region 2 with (first
  | ((with_reducible refine at_l ?_); first
   | (refine zac rfl 24 4 rfl rfl HS0.out _ z24 32 (u8v fun _ => 0) n24 f24 ?_; intro b4 w4 hb4 hcb4 hs; have HS4 := Hd hs; clear hs)
   | (refine zac rfl 24 5 rfl rfl HS4.out _ z24 32 (u8v fun _ => 0) n24 f24 ?_; intro b5 w5 hb5 hcb5 hs; have HS5 := Hd hs; clear hs)))
 go_wp2_with (first
  | ((with_reducible refine at_l ?_); first
   | (refine zab rfl 11 rfl (.int .i64 ((4 * k : Nat) : Int)) ?_ ?_; (· exact za1 rfl rfl rfl rfl (fun w => mulI 4 k (by omega) w) _))
   | (refine zab rfl 13 rfl (.int .i64 ((4 * k : Nat) : Int)) ?_ ?_; (· exact za1 rfl rfl rfl rfl (fun w => mulI 4 k (by omega) w) _))
   | (refine zab rfl 14 rfl (.int .i64 ((4 * k + 4 : Nat) : Int)) ?_ ?_; (· exact za1 rfl rfl rfl rfl (fun w => addI (4 * k) 4 (by omega) w) _))
   | (refine zok rfl rfl .i64 ((4 * k + 4 : Nat) : Int) (n : Int) (h : Int) rfl rfl HMin.out ?_)
   | (refine zlh rfl 37 (.tmp 9) (some (.tmp 11)) (some (.tmp 17)) rfl rfl HCt.out.1 rfl rfl ?_)))
 go_loopw [20] (fun i wq => ∃ j : Nat, i = .int .i64 (j : Int) ∧ j ≤ L ∧ HS w wq [⟨b5, 24, 32, u8v fun q => if q < 8 * j then padN (8 * n) (leS x) (k * 32 + q) else 0⟩, ⟨b4, 24, 32, u8v fun _ => 0⟩]) (fun i _ => L - (intOf i).toNat)
 case atStart => exact ⟨0, rfl, by omega, HS5.out⟩
 case round =>
  clear HS4 HS5
  obtain ⟨j, rfl, hj, hs⟩ := hrel
  have HQ := Hd hs
  clear hs
  by_cases hjn : j < L
  ·obtain ⟨ad, rfl, hbd, hc⟩ := (HRL.out wr (HR.out.below (HQ.out.out (by simp; omega)))).at_ hjn
   obtain ⟨v, hv⟩ : ∃ v, v = x (4 * k + j) := ⟨_, rfl⟩
   have hlay := HLay.out j hjn
   rw [← hv] at hlay
   have hc2 : wr.cell? (ad.add j) = some (.int .u64 (v : Int)) := by rw [hv]; exact hc
   have HLj := Hd hlay
   clear hc hv hlay HMin HEnd
   go_wp2_with (first
    | (go_at_call 55; refine (zet v _).mono ?_; rintro e w6 ⟨rfl, hb⟩; have HQ6 := Hd (HQ.out.below hb); clear hb)
    | ((with_reducible refine at_l ?_); first
     | (refine zac rfl 108 8 rfl rfl HQ6.out (Array.replicate 8 (.int .u8 0)) (by kernel_rfl) 8 (u8v fun _ => 0) (by rfl) (zbg 8 (.int .u8 0)) ?_; intro b8 w7 hb8 hcb8 hs; have HQ7 := Hd hs; clear hs)
     | (refine zaf rfl 108 (.tmp 8) (.tmp 26) rfl HQ7.out 0 rfl (u8v (leB v)) rfl rfl (by kernel_rfl) (fun _ _ => rfl) ?_; intro w8 hs; have HQ8 := Hd hs; clear hs)))
   refine zao (l := [_, _, _, _]) (tl := []) (B := w8.heap.size) (w0 := w8) [sI (.int .i64 ((j : Nat) : Int)), sI (.int .i64 ((8 * j : Nat) : Int)), sI (.slice (some ⟨b5, 8 * j, none⟩) (32 - 8 * j) (32 - 8 * j)), sI (.slice (some ⟨b8, 0, none⟩) (8) (8))] (by kernel_rfl) (by kernel_rfl) rfl lR (Below.refl _ _) ⟨?_, ?_, ?_, ?_, trivial⟩ ?_
   ·exact (zaa _ rfl (.inl rfl) rfl)
   ·exact zbn 8 j (by omega) rfl rfl OpK.const (oT rfl)
   ·exact zbe rfl rfl (oT rfl) (OpKo.tmp rfl) OpKo.no (fun w => zbp Ty24 1 (by kernel_rfl) (some _) none (8 * j) 32 (.inr rfl) (.inl ⟨rfl, rfl⟩) (by omega) (by omega) (by omega) (by omega) (by omega) (by omega))
   ·exact zbe rfl rfl (oT rfl) (OpKo.no) (OpKo.no) (fun w => zbp Ty108 1 (by kernel_rfl) none none (0) (8) (.inl ⟨rfl, rfl⟩) (.inl ⟨rfl, rfl⟩) (by omega) (by omega) (by omega) (by omega) (by omega) (by omega))
   ·intro w' hb
    simp only [fin, sI, forall_eq]
    simp only [pcX]
    have hs := HQ8.out.below hb
    refine ze2 rfl Ty39 (by kernel_rfl) hs 1 rfl (8 * j) (32 - 8 * j) (32 - 8 * j) (Rd.of_row (n := 8) (hs.row 0 rfl) lR (hs.lt 0 rfl)) (fun _ _ => rfl) 8 (by omega) (by omega) rfl rfl _ HLj.out ?_
    clear hs hb
    intro wy hs
    have hA : HS w wy [⟨b5, 24, 32, u8v fun q => if q < 8 * (j + 1) then padN (8 * n) (leS x) (k * 32 + q) else 0⟩, ⟨b4, 24, 32, u8v fun _ => 0⟩] := HS.drop hs hb8
    have HY := Hd hA
    clear hs hA HQ6 HQ7 HQ8
    simp only [seqWp, Act.put, List.setIfInBounds_toArray, List.set_cons_succ, List.set_cons_zero]
    go_wp2_with fail
    go_roundw
    case rel => exact ⟨j + 1, by go_num, by omega, HY.out⟩
    case measure => simp [intOf]; omega
  ·obtain rfl : j = L := by omega
   have hA : HS w wr [⟨b5, 24, 32, u8v fun q => padN (8 * n) (leS x) (k * 32 + q)⟩, ⟨b4, 24, 32, u8v fun _ => 0⟩] := HS.congr HQ.out 0 rfl HEnd.out
   have HA := Hd hA
   clear hA HQ HMin
   go_wp2_with (first
    | ((with_reducible refine at_l ?_); first
     | (refine zae rfl 24 (.tmp 5) rfl 32 _ Ty24 rfl s24 ⟨b5, 0, none⟩ rfl (u8v fun q => padN (8 * n) (leS x) (k * 32 + q)) (fun i hi => by rw [zai]; exact HA.out.cell 0 i rfl hi) ?_)
     | (refine zaf rfl 24 (.tmp 4) (.tmp 33) rfl HA.out 1 rfl (u8v fun q => padN (8 * n) (leS x) (k * 32 + q)) rfl rfl (by kernel_rfl) (fun _ _ => rfl) ?_; intro wy hs; have HY := Hd hs; clear hs)))
   exact za5 rfl (HY.out.row 1 rfl) _ rfl Ty24 rfl s24 rfl ⟨rfl, HY.out.out (by simp; omega)⟩
structure TzPkg (w : World) : Prop where
 tab : ∀ i, i < 64 → w.cell? ⟨2, i, none⟩ = some (.int .u8 ((Go.Lib.deBruijn64tab.getD i 0 : Nat) : Int))
 lt : 2 < w.heap.size
theorem TzPkg.below {w w' : World} {B : Nat} (h : TzPkg w) (hb : Below B w w') (hB : 2 < B) : TzPkg w' :=
 ⟨fun i hi => by rw [← h.tab i hi]; exact World.cell?_of_block (hb.block _ hB), Nat.lt_of_lt_of_le h.lt hb.size⟩
namespace TreeTz
theorem zuv {P : Program} {o : Oper} {a : Act} {ty : TypeId} {x : Operand} (n : Nat) (h0 : 0 < n) (h : n < 18446744073709551616) (ho : o.op = .unOp .neg ty x) (hx : a.eval x = .int .u64 (n : Int)) (w : World) : (execOp a.eval o).run P w = .ok (.value (.int .u64 ((18446744073709551616 - n : Nat) : Int))) w := by
 unfold execOp
 rw [ho]
 simp only [hx]
 simp [go_sem, IntKind.wrap, IntKind.bits, IntKind.signed]
 omega
theorem mulW2 (a r : Nat) (hr : a * 285870213051353865 % 18446744073709551616 = r) (w : World) : (binOp .mul 22 (.int .u64 (a : Int)) (.int .u64 285870213051353865)).run Tryd.prog w = .ok (.int .u64 (r : Int)) w := by
 subst hr
 simp [go_sem, IntKind.wrap, IntKind.bits, IntKind.signed]
theorem shr58 (m k : Nat) (h : m / 288230376151711744 = k) (w : World) : (binOp .shr 22 (.int .u64 (m : Int)) (.int .u64 58)).run Tryd.prog w = .ok (.int .u64 (k : Int)) w := by
 subst h
 simp [go_sem]
theorem ixT (w : World) (i : Nat) (hi : i < 64) : (Instr.indexAt 111 (.pointer (some ⟨2, 0, none⟩)) (.int .u64 (i : Int))).run Tryd.prog w = .ok (.pointer (some ⟨2, i, none⟩)) w := by
 simp [go_sem, Instr.indexAt]
 omega
theorem cvBI (b : Nat) (hb : b < 256) (w : World) : (convert 5 3 (.int .u8 (b : Int))).run Tryd.prog w = .ok (.int .i64 (b : Int)) w := by
 simp [go_sem, IntKind.wrap, IntKind.bits, IntKind.signed]; omega
end TreeTz
open TreeTz in
theorem zqs (x : Nat) (h0 : 0 < x) (h : x < 18446744073709551616) (w : World) (hp : TzPkg w) :
 Calls Tryd.prog 95 #[.int .u64 (x : Int)] w fun r w' => r = .returned (.int .i64 ((Go.Lib.ctz 64 x : Nat) : Int)) ∧ w' = w := by
 obtain ⟨hlow, hlt⟩ := Go.Lib.lowest_bit 64 x (by omega) h
 rw [show (2 : Nat) ^ 64 = 18446744073709551616 by decide] at hlow
 obtain ⟨k, hk⟩ : ∃ k, Go.Lib.ctz 64 x = k := ⟨_, rfl⟩
 rw [hk] at hlow hlt ⊢
 obtain ⟨hd1, hd2⟩ := Go.Lib.deBruijn64_at k hlt
 obtain ⟨p, hpw⟩ : ∃ p, 2 ^ k = p := ⟨_, rfl⟩
 rw [hpw] at hlow hd1 hd2
 obtain ⟨m, hm⟩ : ∃ m, p * 285870213051353865 % 18446744073709551616 = m := ⟨_, rfl⟩
 rw [hm] at hd1 hd2
 obtain ⟨q, hq⟩ : ∃ q, m / 288230376151711744 = q := ⟨_, rfl⟩
 rw [hq] at hd1 hd2
 have HT := Hd (show w.cell? ⟨2, q, none⟩ = some (.int .u8 ((k : Nat) : Int)) by rw [hp.tab q hd1, hd2])
 have HLow := Hd (show x &&& (18446744073709551616 - x) = p from hlow)
 have HM := Hd hm
 have HQ := Hd hq
 have hx0 : ((x : Int) == 0) = false := by simp; omega
 clear hlow hd2 hm hq hk hpw hp
 go_enter Tryd.func95, Tryd.ntmps95
 go_wp2_with (first
  | (refine zab rfl 7 rfl (.int .u64 ((18446744073709551616 - x : Nat) : Int)) ?_ ?_; (· exact zuv x h0 h rfl rfl _))
  | (refine zab rfl 8 rfl (.int .u64 (p : Int)) ?_ ?_; (· exact za1 rfl rfl rfl rfl (fun w => ShufFn.andU x (18446744073709551616 - x) p h (by omega) HLow.out w) _))
  | (refine zab rfl 9 rfl (.int .u64 (m : Int)) ?_ ?_; (· exact za1 rfl rfl rfl rfl (fun w => mulW2 p m HM.out w) _))
  | (refine zab rfl 10 rfl (.int .u64 (q : Int)) ?_ ?_; (· exact za1 rfl rfl rfl rfl (fun w => shr58 m q HQ.out w) _))
  | (refine zab rfl 11 rfl (.pointer (some ⟨2, q, none⟩)) ?_ ?_; (· exact zbb rfl rfl rfl (fun w => ixT w q hd1) _))
  | (refine zab rfl 12 rfl (.int .u8 ((k : Nat) : Int)) ?_ ?_; (· exact zbf .u8 rfl rfl Ty5 HT.out))
  | (refine zab rfl 13 rfl (.int .i64 ((k : Nat) : Int)) ?_ ?_; (· exact zdc rfl rfl (fun w => cvBI k (by omega) w) _)))
 go_ret
 exact ⟨rfl, rfl⟩
theorem zn7 {x c m : Nat} (h : x = 2 ^ c * (2 * m + 1)) (j : Nat) : x.testBit j = if j < c then false else if j = c then true else m.testBit (j - c - 1) := by
 subst h
 rw [Nat.mul_comm, Nat.testBit_mul_two_pow]
 by_cases h1 : j < c
 ·rw [if_pos h1]; simp; omega
 ·rw [if_neg h1]
  by_cases h2 : j = c
  ·rw [if_pos h2]; subst h2; simp
  ·rw [if_neg h2]
   obtain ⟨d, rfl⟩ : ∃ d, j = c + (d + 1) := ⟨j - c - 1, by omega⟩
   rw [show c + (d + 1) - c = d + 1 by omega, show d + 1 - 1 = d by omega, Nat.testBit_succ, show (2 * m + 1) / 2 = m by omega]
   simp
theorem zsl {x c m : Nat} (h : x = 2 ^ c * (2 * m + 1)) : x &&& (x - 1) = 2 ^ (c + 1) * m := by
 have hp := Nat.two_pow_pos c
 have e1 : x - 1 = 2 ^ c * (2 * m) + (2 ^ c - 1) := by
  rw [h, Nat.mul_add, Nat.mul_one]; omega
 apply Nat.eq_of_testBit_eq
 intro j
 rw [Nat.testBit_and, zn7 h j, e1, Nat.testBit_two_pow_mul_add _ (by omega), Nat.mul_comm (2 ^ (c + 1)), Nat.testBit_mul_two_pow]
 by_cases h1 : j < c
 ·rw [if_pos h1]; simp; omega
 ·rw [if_neg h1, if_neg h1]
  by_cases h2 : j = c
  ·rw [if_pos h2]; subst h2; simp; omega
  ·rw [if_neg h2]
   obtain ⟨d, rfl⟩ : ∃ d, j = c + (d + 1) := ⟨j - c - 1, by omega⟩
   rw [show c + (d + 1) - c = d + 1 by omega, show d + 1 - 1 = d by omega, Nat.testBit_succ, show 2 * m / 2 = m by omega, show c + (d + 1) - (c + 1) = d by omega]
   simp
def filL (t : Nat → Bool) (a : Nat) : List Nat := (List.range a).filter t
theorem zij {t : Nat → Bool} {a : Nat} : ∀ d, (∀ i, a ≤ i → i < a + d → t i = false) → filL t (a + d) = filL t a := by
 intro d
 induction d with
 | zero => intro _; rfl
 | succ d ih =>
  intro h
  have e := ih (fun i h1 h2 => h i h1 (by omega))
  unfold filL at e ⊢
  rw [← Nat.add_assoc, List.range_succ, List.filter_append, e]
  simp [h (a + d) (by omega) (by omega)]
theorem zuw {t : Nat → Bool} {a : Nat} (h : t a = true) : filL t (a + 1) = filL t a ++ [a] := by
 unfold filL; rw [List.range_succ, List.filter_append]; simp [h]
def Rest (W p x : Nat) : Prop := ∀ j, x.testBit j = (decide (p ≤ j) && W.testBit j)
theorem zoz (W : Nat) : Rest W 0 W := fun j => by simp
theorem zqt {W p : Nat} (h : Rest W p 0) : ∀ j, p ≤ j → W.testBit j = false := fun j hj => by
 have := h j
 simp [hj] at this
 exact this
theorem zqu {W p x : Nat} (h : Rest W p x) (h0 : 0 < x) (hx : x < 18446744073709551616) : ∃ c, Go.Lib.ctz 64 x = c ∧ p ≤ c ∧ c < 64 ∧ W.testBit c = true ∧ (∀ j, p ≤ j → j < c → W.testBit j = false) ∧ Rest W (c + 1) (x &&& (x - 1)) := by
 have hx2 : x < 2 ^ 64 := by rw [show (2 : Nat) ^ 64 = 18446744073709551616 by decide]; exact hx
 obtain ⟨m, hm, hc⟩ := Go.Lib.ctzFrom_spec 64 x h0 hx2
 have he : Go.Lib.ctz 64 x = Go.Lib.ctzFrom 64 x := by unfold Go.Lib.ctz; rw [if_neg (by omega)]
 obtain ⟨c, hcd⟩ : ∃ c, Go.Lib.ctzFrom 64 x = c := ⟨_, rfl⟩
 rw [hcd] at hm hc he
 have hb := zn7 hm
 have h1 := h c
 rw [hb c, if_neg (Nat.lt_irrefl c), if_pos rfl] at h1
 have h2 : p ≤ c ∧ W.testBit c = true := by
  have h3 := h1.symm
  rw [Bool.and_eq_true, decide_eq_true_eq] at h3
  exact h3
 refine ⟨c, he, h2.1, hc, h2.2, fun j hj hjc => ?_, fun j => ?_⟩
 ·have h3 := h j
  rw [hb j, if_pos hjc] at h3
  simp [hj] at h3
  exact h3
 ·rw [zsl hm, Nat.mul_comm, Nat.testBit_mul_two_pow]
  by_cases hj : c + 1 ≤ j
  ·have h3 := h j
   rw [hb j, if_neg (by omega), if_neg (by omega)] at h3
   rw [show j - c - 1 = j - (c + 1) by omega] at h3
   rw [h3]
   simp [hj, show p ≤ j by omega]
  ·simp [hj]
theorem zux {n dn : Nat} {dw : Nat → Nat} (h : ∀ a, dirB dn dw a = true → a < n) : filL (dirB dn dw) (dn * 64) = filL (dirB dn dw) n := by
 have hd : ∀ a, dn * 64 ≤ a → dirB dn dw a = false := fun a ha => by unfold dirB; simp; omega
 have hn : ∀ a, n ≤ a → dirB dn dw a = false := fun a ha => by
  cases hb : dirB dn dw a with
  | false => rfl
  | true => have := h a hb; omega
 rcases Nat.le_total n (dn * 64) with h1 | h1
 ·obtain ⟨d, hd2⟩ : ∃ d, dn * 64 = n + d := ⟨dn * 64 - n, by omega⟩
  rw [hd2]; exact zij d (fun i h2 _ => hn i h2)
 ·obtain ⟨d, hd2⟩ : ∃ d, n = dn * 64 + d := ⟨n - dn * 64, by omega⟩
  rw [hd2]; exact (zij d (fun i h2 _ => hd i h2)).symm
theorem zjb {dn q c : Nat} {dw : Nat → Nat} (hq : q < dn) (hc : c < 64) : dirB dn dw (q * 64 + c) = (dw q).testBit c := by
 unfold dirB
 rw [show (q * 64 + c) / 64 = q by omega, show (q * 64 + c) % 64 = c by omega]
 simp [hq]
def i64v (x : Nat → Nat) : Nat → Value := fun i => .int .i64 ((x i : Nat) : Int)
namespace TreeMarked
theorem zk4 (v : Int) (w : World) : (Instr.buildSlice 139 1 #[(0, .int .i64 v)]).run Tryd.prog w = .ok (.slice (some ⟨w.heap.size, 0, none⟩) 1 1) (w.alloc (.cells #[.int .i64 v] 3)) := by simp [go_sem]
theorem shl6 (q : Nat) (h : q < 16777217) (w : World) : (binOp .shl 3 (.int .i64 (q : Int)) (.int .u64 6)).run Tryd.prog w = .ok (.int .i64 ((q * 64 : Nat) : Int)) w := by
 simp [go_sem, IntKind.wrap, IntKind.bits, IntKind.signed]
 omega
theorem orI (q c : Nat) (h : q < 16777217) (hc : c < 64) (w : World) : (binOp .or 3 (.int .i64 ((q * 64 : Nat) : Int)) (.int .i64 (c : Int))).run Tryd.prog w = .ok (.int .i64 ((q * 64 + c : Nat) : Int)) w := by
 have h1 : q * 64 ||| c = q * 64 + c := by
  have := ShufFn.zv7 c q 6 (by omega)
  rw [Nat.or_comm, show (2 : Nat) ^ 6 = 64 by decide] at this
  rw [this]; omega
 have e : bits .or .i64 ((q * 64 : Nat) : Int) (c : Int) = ((q * 64 + c : Nat) : Int) := by
  show IntKind.i64.wrap ((BitVec.ofInt 64 ((q * 64 : Nat) : Int) ||| BitVec.ofInt 64 (c : Int)).toNat : Int) = _
  rw [BitVec.toNat_or, BitVec.ofInt_natCast, BitVec.ofInt_natCast, BitVec.toNat_ofNat, BitVec.toNat_ofNat, Nat.mod_eq_of_lt (by omega), Nat.mod_eq_of_lt (by omega), h1]
  simp [IntKind.wrap, IntKind.bits, IntKind.signed]
  omega
 have e2 : bits .or .i64 ((q : Int) * 64) (c : Int) = (q : Int) * 64 + (c : Int) := by simpa using e
 simp [go_sem, e2]
theorem zsm (L : List Nat) (a : Nat) (N : Nat) : ∀ i, i < N → catF (L.length * 1) (i64v fun j => L.getD j 0) (fun _ => .int .i64 ((a : Nat) : Int)) i = i64v (fun j => (L ++ [a]).getD j 0) i ∨ L.length + 1 ≤ i := fun i _ => by
 by_cases h : L.length + 1 ≤ i
 ·exact .inr h
 ·left
  simp only [catF, i64v, Nat.mul_one]
  by_cases h2 : i < L.length
  ·rw [if_pos h2]; simp only [List.getD]; rw [List.getElem?_append_left h2]
  ·rw [if_neg h2]
   rw [show i = L.length by omega]
   simp
theorem zk5 (L : List Nat) (a : Nat) : ∀ i, i < (L.length + 1) * 1 → catF (L.length * 1) (i64v fun j => L.getD j 0) (fun _ => .int .i64 ((a : Nat) : Int)) i = i64v (fun j => (L ++ [a]).getD j 0) i := fun i hi => by
 rcases zsm L a (i + 1) i (by omega) with h | h
 ·exact h
 ·omega
end TreeMarked
open TreeFn TreeMark TreeMarked in
theorem znm (v : TV) (base T : Nat) (w : World) (h : TM w base T v) (hdw : ∀ k, k < v.dn → v.dw k < 18446744073709551616) (hdn : v.dn ≤ 16777216) (hp : TzPkg w) :
 Calls Tryd.prog 81 #[tpV T] w fun r w' => ∃ C cC, r = .returned (.slice C (filL (dirB v.dn v.dw) (v.dn * 64)).length cC) ∧ OwnZ w' w.heap.size 3 1 C (filL (dirB v.dn v.dw) (v.dn * 64)).length cC (i64v fun j => (filL (dirB v.dn v.dw) (v.dn * 64)).getD j 0) ∧ Below w.heap.size w w' := by
 have H0 := Hd h
 have HP := Hd hp
 have HDw := Hd hdw
 obtain ⟨n, hn⟩ : ∃ n, v.dn = n := ⟨_, rfl⟩
 obtain ⟨dw, hd⟩ : ∃ dw, v.dw = dw := ⟨_, rfl⟩
 rw [hn, hd] at HDw
 rw [hn] at hdn
 have HN := Hd hn
 have HD := Hd hd
 have hlt := hp.lt
 rw [hn, hd]
 clear h hdw hp hn hd
 go_enter Tryd.func81, Tryd.ntmps81
 go_wp2_with (refine zab rfl 9 rfl (.slice v.dA n v.dc) ?_ ?_; (· exact zan rfl rfl Ty37 H0.out.c3 (by rw [HN.out])))
 go_loopw [3, 11] (fun l i wr => ∃ (q : Nat) (C : Option Addr) (cC : Nat), l = .slice C (filL (dirB n dw) (q * 64)).length cC ∧ i = .int .i64 (q : Int) ∧ q ≤ n ∧ OwnZ wr w.heap.size 3 1 C (filL (dirB n dw) (q * 64)).length cC (i64v fun j => (filL (dirB n dw) (q * 64)).getD j 0) ∧ Below w.heap.size w wr) (fun _ i _ => n - (intOf i).toNat)
 case atStart => exact ⟨0, none, 0, rfl, rfl, Nat.zero_le _, OwnZ.nil _ _ _ _ _, Below.refl _ _⟩
 case round =>
  obtain ⟨q, C, cC, rfl, rfl, hq, ho, hb⟩ := hrel
  have HO := Hd ho
  have HB := Hd hb
  clear ho hb
  by_cases hqn : q < n
  ·obtain ⟨bd, hbd⟩ := zdv H0.out.dr (by rw [HN.out]; omega)
   have HBd := Hd hbd
   rw [hbd]
   have HM := Hd (H0.out.below HB.out)
   have HC := Hd (show wr.cell? ⟨bd, q, none⟩ = some (.int .u64 ((dw q : Nat) : Int)) by
    have h1 := HM.out.dr.rd
    rw [HBd.out, HN.out, HD.out] at h1
    have h2 := h1.cells (i := q) (show q < n * 1 by omega)
    rw [zai] at h2
    exact h2)
   clear hbd
   go_wp2_with (first
    | (refine zab rfl 14 rfl (.pointer (some ⟨bd, q, none⟩)) ?_ ?_; (· exact zbb rfl rfl rfl (fun w => ixW w bd n _ q hqn) _))
    | (refine zab rfl 15 rfl (.int .u64 ((dw q : Nat) : Int)) ?_ ?_; (· exact zbf .u64 rfl rfl Ty22 HC.out)))
   go_loopw [3, 5] (fun l x wz => ∃ (p y : Nat) (C : Option Addr) (cC : Nat), l = .slice C (filL (dirB n dw) (q * 64 + p)).length cC ∧ x = .int .u64 (y : Int) ∧ y < 18446744073709551616 ∧ p ≤ 64 ∧ Rest (dw q) p y ∧ OwnZ wz w.heap.size 3 1 C (filL (dirB n dw) (q * 64 + p)).length cC (i64v fun j => (filL (dirB n dw) (q * 64 + p)).getD j 0) ∧ Below w.heap.size w wz) (fun _ x _ => (intOf x).toNat)
   case atStart => exact ⟨0, dw q, C, cC, rfl, rfl, HDw.out q hqn, by omega, zoz _, HO.out, HB.out⟩
   case round =>
    clear HO HB HM HC
    obtain ⟨p, y, C, cC, rfl, rfl, hy, hp64, hr, ho, hb⟩ := hrel
    have HO := Hd ho
    have HB := Hd hb
    have HRs := Hd hr
    have hsz := hb.size
    clear ho hb hr
    rcases Nat.eq_zero_or_pos y with h0 | h0
    ·subst h0
     have hz := zij (t := dirB n dw) (a := q * 64 + p) (64 - p) (fun i h1 h2 => by
      obtain ⟨j, rfl⟩ : ∃ j, i = q * 64 + j := ⟨i - q * 64, by omega⟩
      rw [zjb hqn (by omega)]
      exact zqt HRs.out j (by omega))
     rw [show q * 64 + p + (64 - p) = (q + 1) * 64 by omega] at hz
     have HZ := Hd hz
     clear hz
     go_wp2_with fail
     go_roundw
     case rel => exact ⟨q + 1, C, cC, by rw [HZ.out], by go_num, by omega, by rw [HZ.out]; exact HO.out, HB.out⟩
     case measure => simp [intOf]; omega
    ·obtain ⟨c, hc, hpc, hc64, hset, hnone, hr2⟩ := zqu HRs.out h0 hy
     have HCt := Hd hc
     have HR2 := Hd hr2
     have hext := zij (t := dirB n dw) (a := q * 64 + p) (c - p) (fun i h1 h2 => by
      obtain ⟨j, rfl⟩ : ∃ j, i = q * 64 + j := ⟨i - q * 64, by omega⟩
      rw [zjb hqn (by omega)]
      exact hnone j (by omega) (by omega))
     rw [show q * 64 + p + (c - p) = q * 64 + c by omega] at hext
     have hone := zuw (t := dirB n dw) (a := q * 64 + c) (by rw [zjb hqn hc64]; exact hset)
     rw [hext] at hone
     have HF := Hd hone
     obtain ⟨L, hL⟩ : ∃ L, L = filL (dirB n dw) (q * 64 + p) := ⟨_, rfl⟩
     rw [← hL] at HO HF ⊢
     have hlen : L.length ≤ 1073741824 + 64 := by
      rw [hL]
      unfold filL
      have := List.length_filter_le (dirB n dw) (List.range (q * 64 + p))
      rw [List.length_range] at this
      omega
     obtain ⟨z, hz⟩ : ∃ z, y &&& (y - 1) = z := ⟨_, rfl⟩
     rw [hz] at HR2
     have HZ := Hd hz
     have hzy : z < y := by rw [← hz]; exact Nat.lt_of_le_of_lt Nat.and_le_right (by omega)
     have hy0 : ((y : Int) != 0) = true := by simp; omega
     obtain ⟨wo, rfl⟩ : ∃ wo : World, wo = wr := ⟨_, rfl⟩
     have HNz := Hd (HS.nil wo)
     have HPz := Hd (HP.out.below HB.out hlt)
     clear hL hc hr2 hone hext hnone hset hz
     go_wp2_with (first
      | (refine zab rfl 24 rfl (.int .i64 ((q * 64 : Nat) : Int)) ?_ ?_; (· exact za1 rfl rfl rfl rfl (fun w => shl6 q (by omega) w) _))
      | (go_at_call 95; refine (zqs y h0 hy _ HPz.out).mono ?_; rintro r w3 ⟨rfl, hw3⟩; subst hw3; rw [HCt.out])
      | (refine zab rfl 27 rfl (.int .i64 ((q * 64 + c : Nat) : Int)) ?_ ?_; (· exact za1 rfl rfl rfl rfl (fun w => orI q c (by omega) hc64 w) _))
      | (refine zcj rfl (.tmp 27) (.int .i64 ((q * 64 + c : Nat) : Int)) rfl rfl (fun w => zk4 _ w) HNz.out ?_; intro b5 w5 hb5 hc5 hbl hs; have HR5 := Hd (hs.row 0 rfl); have HB5 := Hd hbl; clear hs hbl)
      | (at_builtin; refine zba _ (.tmp 22) (.tmp 28) 139 w.heap.size (e := 3) (z := .int .i64 0) (k := 1) (bytes := 8) (by kernel_rfl) Ty139 (by rfl) (by omega) rfl rfl (L.length + 1) (i64v fun j => (L ++ [q * 64 + c]).getD j 0) rfl rfl (HO.out.all HB5.out) (Rd.of_row (n := 1 * 1) HR5.out lR HR5.out.lt) (fun _ _ => rfl) rfl (zk5 L (q * 64 + c)) ⟨by omega, by omega⟩ (lT hsz HB5.out.size) ?_; intro A36 c36 w36 ho36 hg36 ha36; have HO36 := Hd ho36; have HB36 := Hd (za4 (HB.out.trans (HB5.out.mono hsz)) hg36 (lT hsz HB5.out.size) (fun ad e => (HO.out.base_le ad e).1)); clear ho36 hg36 ha36)
      | (refine zab rfl 20 rfl (.int .u64 ((y - 1 : Nat) : Int)) ?_ ?_; (· exact za1 rfl rfl rfl rfl (fun w => ShufFn.subU y 1 (by omega) w hy) _))
      | (refine zab rfl 21 rfl (.int .u64 (z : Int)) ?_ ?_; (· exact za1 rfl rfl rfl rfl (fun w => ShufFn.andU y (y - 1) z hy (by omega) HZ.out w) _)))
     go_roundw
     case rel => exact ⟨c + 1, z, A36, c36, by rw [← Nat.add_assoc, HF.out]; simp, rfl, by omega, by omega, HR2.out, by rw [← Nat.add_assoc, HF.out, List.length_append]; exact HO36.out, HB36.out⟩
     case measure => simp [intOf]; omega
  ·obtain rfl : q = n := by omega
   go_wp2_with fail
   go_ret
   exact ⟨C, cC, rfl, HO.out, HB.out⟩
end Go.Proofs.YtomilckcgmhfcaaDoor
namespace Go.Proofs.YtomilckcgmhfcaaDoor
set_option maxRecDepth 40000
set_option maxHeartbeats 64000000
open Go.RowKit
namespace TreeCopy
end TreeCopy
open TreeCopy
section
variable {w w' : World} {base d : Nat} {lm : Nat → Nat} {g : Nat → Nat → Nat} {lA : Nat → Option Addr} {lk : Nat → Nat}
end
namespace TreeCopy
theorem zsn {P : Program} {o : Oper} {a : Act} {w : World} (t : TypeId) (parts : Array (Nat × Operand)) (ho : o.op = .build t parts) (vs : List (Nat × Value)) (hvs : parts.toList.map (fun p => (p.1, a.eval p.2)) = vs) (cs : Array Value) (hb : P.built t vs = some cs) : (execOp a.eval o).run P w = .ok (.value (.agg cs)) w := by
 have hvs' : (parts.map fun (i, x) => (i, a.eval x)).toList = vs := by rw [← hvs]; simp
 subst hvs'
 unfold execOp
 simp only [ho, Sem.run_bind, run_build w t _ cs hb, Result.andThen_ok]
 rfl
theorem ixL (w : World) (b n c k : Nat) (hk : k < n) : (Instr.indexAt 134 (.slice (some ⟨b, 0, none⟩) n c) (.int .i64 (k : Int))).run Tryd.prog w = .ok (.pointer (some ⟨b, k, none⟩)) w := by
 have h := zaw (z := 1) (k := k) (P := Tryd.prog) (c := c) w Ty134 (by kernel_rfl) ⟨b, 0, none⟩ hk
 rw [zai, Nat.mul_one] at h
 exact h
theorem zik (n : Nat) : ∀ d, cnt d n ≤ n := by
 intro d
 induction d with
 | zero => exact Nat.le_refl _
 | succ d ih => rw [cnt]; omega
section
variable {w w' w5 : World} {base lim D T2 lb2 zc Lc dn c20 : Nat} {zA A20 : Option Addr} {dw lm : Nat → Nat} {lA' : Nat → Option Addr} {lk' : Nat → Nat} {g : Nat → Nat → Nat}
end
end TreeCopy
end Go.Proofs.YtomilckcgmhfcaaDoor
namespace Go.Proofs.YtomilckcgmhfcaaDoor
set_option maxRecDepth 40000
set_option maxHeartbeats 64000000
open Go.RowKit
open TreeFn TreeMark TreeNew TreeGet TreeCopy in
theorem zo0 (v : TV) (base T : Nat) (w : World) (h : TM w base T v) (hn : v.lm 0 = 0) (hD : v.D ≤ 30) :
 Calls Tryd.prog 57 #[tpV T] w fun r w' => r = .returned (rootV (zrN v.D)) ∧ Below w.heap.size w w' := by
 have H0 := Hd h
 have HN := Hd hn
 have HS0 := Hd (HS.nil w)
 obtain ⟨D, hDd⟩ : ∃ D, v.D = D := ⟨_, rfl⟩
 rw [hDd] at hD
 have HD := Hd hDd
 obtain ⟨adz, hzA, _, _⟩ := h.zr (by omega)
 have HZA := Hd hzA
 have HZ : Hid (∀ w', Below w.heap.size w w' → ∀ q, q < 32 → w'.cell? ((adz.add (D * 32)).add q) = some (u8v (zrN D) q)) := Hd (fun w' hb q hq => by
  have h1 := (H0.out.below hb).zr
  rw [HZA.out, HD.out] at h1
  have h2 := h1.cells (i := D * 32 + q) (by omega)
  rw [zb1, h2]
  simp only [u8v, zrsN]
  rw [show (D * 32 + q) / 32 = D by omega, show (D * 32 + q) % 32 = q by omega])
 rw [hDd]
 clear h hn hDd hzA
 go_enter Tryd.func57, Tryd.ntmps57
 go_wp2_with (first
  | (refine zac rfl 24 2 rfl rfl HS0.out _ z24 32 (u8v fun _ => 0) n24 f24 ?_; intro b2 w2 hb2 hc2 hs; have HS2 := Hd hs; have HB2 := Hd (hs.out (by simp; omega)); clear hs)
  | (refine zab rfl 20 rfl (.slice (some ⟨v.lb, 0, none⟩) (D + 1) v.lc) ?_ ?_; (· exact zan rfl rfl Ty134 (H0.out.below HB2.out).c2 (by rw [HD.out])))
  | (refine zab rfl 22 rfl (.int .i64 (D : Int)) ?_ ?_; (· exact za1 rfl rfl rfl rfl (fun w => subI (D + 1) D rfl (by omega) w) _))
  | (go_at_call 80; refine (zd6 v base T _ (H0.out.below HB2.out)).mono ?_; rintro r w5 ⟨rfl, hw5⟩; rw [hw5, HN.out]; clear hw5 w5)
  | (refine zab rfl 29 rfl (.slice (some adz) (D + 1) v.zc) ?_ ?_; (· exact zan rfl rfl Ty32 (H0.out.below HB2.out).c1 (by rw [HD.out, HZA.out])))
  | (refine zab rfl 31 rfl (.pointer (some (adz.add (D * 32)))) ?_ ?_; (· exact zbb rfl rfl rfl (fun w => zaw (z := 32) w Ty32 (by kernel_rfl) adz (by omega)) _))
  | (refine zae rfl 24 (.tmp 31) rfl 32 _ Ty24 rfl s24 (adz.add (D * 32)) rfl (u8v (zrN D)) (HZ.out _ HB2.out) ?_)
  | (refine zaf rfl 24 (.tmp 2) (.tmp 32) rfl HS2.out 0 rfl (u8v (zrN D)) rfl rfl (by kernel_rfl) (fun _ _ => rfl) ?_; intro wh hs; have HH := Hd hs; clear hs))
 exact za5 rfl (HH.out.row 0 rfl) _ rfl Ty24 rfl s24 rfl ⟨rfl, HH.out.out (by simp; omega)⟩
theorem ShaPkg.base {w w' : World} {B : Nat} (h : ShaPkg w) (hB : 0 < B ∧ 1 < B) (hb : Below B w w') : ShaPkg w' := h.keep fun b _ he => hb.block b (by rcases he with rfl | rfl; exact hB.1; exact hB.2)
theorem zlj {n : Nat} {x g : Nat → Nat} (h : ∀ i, i < n * 32 → g i = x i) : LevAll 0 n n x g :=
 ⟨rfl, fun j hj q hq => by
  have hj' : j < n := hj
  rw [h _ (by omega)]; exact (zmc n x j q hj' hq).symm⟩
structure RS (w2 wr : World) (base T : Nat) (v v1 : TV) (n : Nat) (x : Nat → Nat) (d : Nat) : Prop where
 tm : TM wr base T v1
 st : TStep w2 wr T v v1
 lo : ∀ k, k ≤ d → LevAll k n (v1.lm k) x (v1.g k)
 hi : ∀ k, d < k → k ≤ v.D → v1.lm k = v.lm k ∧ v1.g k = v.g k
 H : v1.H = v.H + costN n (dirB v.dn v.dw) d
 dn : v1.dn = v.dn
 dw : v1.dw = v.dw
 g8 : ∀ k i, v1.g k i < 256
theorem RS.start {w2 : World} {base T n : Nat} {v : TV} {x : Nat → Nat} (h : TM w2 base T v) (hs : TSt v n x) : RS w2 w2 base T v v n x 0 where
 tm := h
 st := TStep.refl (Below.refl _ _)
 lo := fun k hk => by
  obtain rfl : k = 0 := by omega
  rw [hs.n0]; exact zlj hs.x0
 hi := fun _ _ _ => ⟨rfl, rfl⟩
 H := rfl
 dn := rfl
 dw := rfl
 g8 := hs.g8
structure IS (w2 wq : World) (base T : Nat) (v v1 v2 : TV) (n : Nat) (x : Nat → Nat) (d q : Nat) : Prop where
 tm : TM wq base T v2
 st : TStep w2 wq T v v2
 same : ∀ k, k ≠ d + 1 → v2.lm k = v1.lm k ∧ v2.g k = v1.g k
 part : LevPart d n (v2.lm (d + 1)) x (v2.g (d + 1)) (dirB v.dn v.dw) q
 H : v2.H = v1.H + (hfN (atN n (dirB v.dn v.dw) d) q).length
 dn : v2.dn = v.dn
 dw : v2.dw = v.dw
 g8 : ∀ k i, v2.g k i < 256
section
variable {w2 wq w' : World} {base T n d q : Nat} {v v1 v2 : TV} {x : Nat → Nat}
theorem IS.start (h : RS w2 wq base T v v1 n x d) (hs : TSt v n x) (hd : d < v.D) : IS w2 wq base T v v1 v1 n x d 0 where
 tm := h.tm
 st := h.st
 same := fun _ _ => ⟨rfl, rfl⟩
 part := by
  obtain ⟨e1, e2⟩ := h.hi (d + 1) (by omega) (by omega)
  rw [e1, e2]
  exact zow (hs.lev d hd)
 H := rfl
 dn := h.dn
 dw := h.dw
 g8 := h.g8
theorem IS.below (h : IS w2 wq base T v v1 v2 n x d q) (hb : Below wq.heap.size wq w') : IS w2 w' base T v v1 v2 n x d q :=
 { h with tm := h.tm.below hb, st := h.st.trans (TStep.refl hb) }
theorem IS.grown {A : Option Addr} (h : IS w2 wq base T v v1 v2 n x d q) (hg : wq.grownBy w' (A.map (·.block))) (hA : ∀ b, OnA A b → w2.heap.size ≤ b ∧ ¬ v2.own T b ∧ ¬ OnA v2.zA b) : IS w2 w' base T v v1 v2 n x d q :=
 { h with
  tm := h.tm.keep hg.size fun b hb => hg.block b (by
   rcases hb with h1 | h1
   ·exact h.tm.lt h1
   ·exact h.tm.zlt h1) (fun e => by
   obtain ⟨_, h2, h3⟩ := hA b (zeo e)
   rcases hb with h1 | h1
   ·exact h2 h1
   ·exact h3 h1)
  st := ⟨h.st.chg.trans (Chg.of_grown (S := fun b => A.map (·.block) = some b) hg (fun b e => .inl e)) (fun b e => .inr (hA b (zeo e.symm)).1), h.st.new, h.st.zA, h.st.D, h.st.lim⟩ }
theorem IS.skip (h : IS w2 wq base T v v1 v2 n x d q) (hl : (hfN (atN n (dirB v.dn v.dw) d) q).getLast? = some (atN n (dirB v.dn v.dw) d q / 2)) : IS w2 wq base T v v1 v2 n x d (q + 1) :=
 { h with part := zqk h.part hl, H := by rw [zfy hl]; exact h.H }
theorem IS.put {v3 : TV} {m' : Nat} {g' : Nat → Nat} (h : IS w2 wq base T v v1 v2 n x d q) (hq : q < (atL n (dirB v.dn v.dw) d).length) (hl : (hfN (atN n (dirB v.dn v.dw) d) q).getLast? ≠ some (atN n (dirB v.dn v.dw) d q / 2)) (htm : TM w' base T v3) (hst : TStep wq w' T v2 v3)
    (hlm : ∀ k, v3.lm k = if k = d + 1 then m' else v2.lm k) (hg : ∀ k, v3.g k = if k = d + 1 then g' else v2.g k) (hH : v3.H = v2.H + 1) (hdn : v3.dn = v2.dn) (hdw : v3.dw = v2.dw)
    (hm : m' = if atN n (dirB v.dn v.dw) d q / 2 < v2.lm (d + 1) then v2.lm (d + 1) else v2.lm (d + 1) + 1) (hn : ∀ r, r < 32 → g' (atN n (dirB v.dn v.dw) d q / 2 * 32 + r) = nodN (d + 1) n x (atN n (dirB v.dn v.dw) d q / 2) r)
    (ho : ∀ j, j < v2.lm (d + 1) → j ≠ atN n (dirB v.dn v.dw) d q / 2 → ∀ r, r < 32 → g' (j * 32 + r) = v2.g (d + 1) (j * 32 + r)) (h8 : ∀ i, g' i < 256) : IS w2 w' base T v v1 v3 n x d (q + 1) where
 tm := htm
 st := h.st.trans hst
 same := fun k hk => by rw [hlm, hg, if_neg hk, if_neg hk]; exact h.same k hk
 part := by
  rw [hlm, hg, if_pos rfl, if_pos rfl]
  exact zht h.part hq hm hn ho
 H := by rw [hH, h.H, zfz hl, List.length_append]; rfl
 dn := hdn.trans h.dn
 dw := hdw.trans h.dw
 g8 := fun k i => by
  rw [hg]
  split
  ·exact h8 i
  ·exact h.g8 k i
theorem IS.done (h0 : RS w2 w' base T v v1 n x d) (h : IS w2 wq base T v v1 v2 n x d (atL n (dirB v.dn v.dw) d).length) : RS w2 wq base T v v2 n x (d + 1) where
 tm := h.tm
 st := h.st
 lo := fun k hk => by
  by_cases e : k = d + 1
  ·subst e; exact zsb h.part
  ·obtain ⟨e1, e2⟩ := h.same k e
   rw [e1, e2]; exact h0.lo k (by omega)
 hi := fun k h1 h2 => by
  obtain ⟨e1, e2⟩ := h.same k (by omega)
  rw [e1, e2]; exact h0.hi k (by omega) h2
 H := by
  rw [h.H, h0.H]
  simp only [costN, atL]
  rw [Nat.add_assoc]; rfl
 dn := h.dn
 dw := h.dw
 g8 := h.g8
end
theorem RS.root {w2 wr : World} {base T n : Nat} {v v1 : TV} {x : Nat → Nat} (h : RS w2 wr base T v v1 n x v.D) (hs : TSt v n x) (hn : 0 < n) : ∀ q, q < 32 → v1.g v.D q = treeN v.D n x q := fun q hq => by
 have h1 := h.lo v.D lR
 have hp := Nat.two_pow_pos v.D
 have hc : 0 < cnt v.D n := by
  have := zf2 v.D n
  rcases Nat.eq_zero_or_pos (cnt v.D n) with h2 | h2
  ·rw [h2] at this; omega
  ·exact h2
 have h2 := h1.2 0 hc q hq
 rw [Nat.zero_mul, Nat.zero_add] at h2
 rw [h2]
 exact zr9 v.D n x (lT hs.nle hs.dep) q hq
theorem TSt.rooted {w2 wr : World} {base T n : Nat} {v v1 v2 : TV} {x : Nat → Nat} (h : RS w2 wr base T v v1 n x v.D) (hs : TSt v n x) (hlm : v2.lm = v1.lm) (hg : v2.g = v1.g) (hD : v2.D = v1.D) (hl : v2.lim = v1.lim) (hdn : v2.dn = v1.dn) (hdw : ∀ k, v2.dw k = 0) : TSt v2 n x where
 n0 := by rw [hlm]; exact (h.lo 0 (Nat.zero_le _)).1
 x0 := fun i hi => by
  have h1 := (h.lo 0 (Nat.zero_le _)).2 (i / 32) (show i / 32 < n by omega) (i % 32) (by omega)
  rw [show i / 32 * 32 + i % 32 = i by omega] at h1
  rw [hg, h1, zmc n x (i / 32) (i % 32) (by omega) (by omega), show i / 32 * 32 + i % 32 = i by omega]
 lev := fun d hd => by
  rw [hlm, hg]
  exact (h.lo (d + 1) (by rw [hD, h.st.D] at hd; omega)).ok _
 nle := by rw [hl, h.st.lim]; exact hs.nle
 lim := by rw [hl, h.st.lim]; exact hs.lim
 dep := by rw [hl, hD, h.st.lim, h.st.D]; exact hs.dep
 D30 := by rw [hD, h.st.D]; exact hs.D30
 dw := fun k _ => by rw [hdw]; omega
 dn := by rw [hdn, h.dn]; exact hs.dn
 g8 := by rw [hg]; exact h.g8
 tn := fun a ha => by
  unfold dirB at ha
  rw [hdw] at ha
  simp at ha
section
variable {P : Program}
theorem zso (z0 : Value) (n : Nat) : Builtin.zeroCells #[z0] n = arr n (fun _ => z0) := by
 refine zfb _ _ _ (by simp [Builtin.zeroCells]) (fun i hi => ?_)
 simp [Builtin.zeroCells, hi, Nat.mod_one]
theorem zlk {w : World} {base n c : Nat} {e t : TypeId} {A : Option Addr} {f : Nat → Value} (ty : TypeId) (h : OwnZ w base e 1 A n c f) (ht : P.underlying t = some (.slice e)) {i : TypeInfo} {z0 : Value} (hi : P.info? e = some i) (hz : i.zero = some z0) (hc : z0.cells = #[z0]) (h1 : z0.oneCell' = true) :
 ∃ w', (Builtin.clear_ #[t] ty #[.slice A n c]).run P w = .ok (.tuple #[]) w' ∧ OwnZ w' base e 1 A n c (fun _ => z0) ∧ w.grownBy w' (A.map (·.block)) := by
 rcases Nat.eq_zero_or_pos n with h0 | h0
 ·subst h0
  refine ⟨w, ?_, h.congr (fun i hi => by omega), World.grownBy.refl _ _⟩
  rcases A with _ | ad <;> simp [Builtin.clear_, run_underlying ht]
 ·cases A with
  | none => obtain ⟨ad, e1, _⟩ := h.rd (by omega); cases e1
  | some ad =>
   obtain ⟨F, hr, hF, hb⟩ := h.row
   obtain ⟨b, rfl⟩ : ∃ b, ad = ⟨b, 0, none⟩ := ⟨_, h.off ad rfl⟩
   have hcap := h.cap
   have hcm := h.capM
   obtain ⟨cur, hcur, hsz, hcc⟩ := hr
   have hl : (arr n (fun _ => z0)).toList.length = n := by simp [zam]
   have hrun := run_storeCells_at (P := P) b 0 e (arr n (fun _ => z0)).toList 0 cur w hcur (by rw [hl]; omega) (fun v hv => by
    obtain ⟨j, hj, rfl⟩ := List.mem_iff_getElem.1 hv
    have h2 := zaq n (fun _ => z0) j (by omega)
    rw [← Array.getElem?_toList, List.getElem?_eq_getElem hj] at h2
    injection h2 with h2
    rw [h2]; exact h1)
   rw [hl] at hrun
   refine ⟨_, ?_, OwnZ.of_rowC (b := b) (F := fun j => if j < n then z0 else F j) (World.rowIs_setRow ⟨cur, hcur, hsz, hcc⟩ (cur.toList.take (0 + 0) ++ (arr n (fun _ => z0)).toList ++ cur.toList.drop (0 + 0 + n)).toArray (by simp [zam]; omega) _ (fun q hq => ?_)) hb hcap hcm (fun q hq => if_pos (by omega)), ⟨rfl, rfl, rfl, by rw [zec]; exact Nat.le_refl _, fun i _ hne => by
    unfold World.setRow
    have : ¬ b = i := fun e => hne (by rw [e]; rfl)
    simp [Array.getElem?_modify, this]⟩⟩
   ·obtain ⟨m, rfl⟩ : ∃ m, n = m + 1 := ⟨n - 1, by omega⟩
    simp only [Builtin.clear_, zeroValue, typeInfo]
    simp [run_underlying ht, hi, hz, hc, zso]
    simp at hrun
    rw [hrun]
    simp [Result.andThen]
   ·have hci := hcc q hq
    simp only [Nat.add_zero, Nat.zero_add, List.getElem?_toArray, List.take_zero, List.nil_append, List.getElem?_append, hl]
    by_cases h3 : q < n
    ·rw [if_pos h3, if_pos h3, Array.getElem?_toList, zaq n _ _ h3]
    ·rw [if_neg h3, if_neg h3, List.getElem?_drop, show n + (q - n) = q by omega, Array.getElem?_toList, hci]
theorem zmi {ops : Array Oper} {rest : List Oper} {o : Oper} {a : Act} {w : World} {Q : Exit → Act → World → Prop} (hgd : o.guard = none) (x : Operand) (t : TypeId) (ho : o.op = .call { callee := .builtin .clear, args := #[x], argTypes := #[t] }) {base n c : Nat} {e : TypeId} {A : Option Addr} {f : Nat → Value} (h : OwnZ w base e 1 A n c f) (ht : P.underlying t = some (.slice e))
    {z0 : Value} {k b : Nat} (hinfo : (P.info? e).map (fun i => (i.zero, i.size, i.bytes)) = some (some z0, k, b)) (hc : z0.cells = #[z0]) (h1 : z0.oneCell' = true) (hx : a.eval x = .slice A n c)
    (hK : ∀ w', OwnZ w' base e 1 A n c (fun _ => z0) → w.grownBy w' (A.map (·.block)) → wpList P ops Q rest (a.put o.dst (.tuple #[])) w') : wpList P ops Q (o :: rest) a w :=
 wpList_plain hgd fun _ hK' => by
  obtain ⟨i, hi, hz⟩ : ∃ i, P.info? e = some i ∧ i.zero = some z0 := by
   cases hq : P.info? e with
   | none => rw [hq] at hinfo; simp at hinfo
   | some i => rw [hq] at hinfo; simp at hinfo; exact ⟨i, rfl, hinfo.1⟩
  obtain ⟨w', hrun, h5, h6⟩ := zlk (P := P) o.type h ht hi hz hc h1
  unfold Oper.wp execOp
  simp only [ho, resolve, invoke, builtin, Sem.run_bind, Sem.run_pure, Result.andThen_ok, List.map_toArray, List.map_cons, List.map_nil, hx]
  rw [hrun]
  exact hK' _ _ (hK _ h5 h6)
end
end Go.Proofs.YtomilckcgmhfcaaDoor
