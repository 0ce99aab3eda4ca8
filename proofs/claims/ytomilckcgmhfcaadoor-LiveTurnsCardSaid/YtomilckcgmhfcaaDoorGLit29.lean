/- Lemmas that the proof stands on. -/
import Derived.Test.YtomilckcgmhfcaaDoorGLit26
import Derived.Test.YtomilckcgmhfcaaDoorGLit28
import Derived.WideKeyArr2
import Derived.Lib.LaidTab
import Derived.KernelRfl
namespace Go.Proofs.YtomilckcgmhfcaaDoor
set_option maxRecDepth 40000
set_option maxHeartbeats 64000000
open Go.RowKit
namespace LiveAwake
theorem zio (vs : Array Value) (w : World) : (callFunc 11 vs).run Tryd.prog w = .ok (.enter 11 vs) w := by kernel_rfl
theorem st64 (m : Int) (w : World) (ad : Addr) (u : Value) (h : w.cell? ad = some u) (hf : w.frozen? ad = false) : (Instr.storeAt 22 (.pointer (some ad)) (.int .u64 m)).run Tryd.prog w = .ok () (w.setCell ad (.int .u64 m)) := by
 simp [go_sem, h, hf]
theorem zve {o : Oper} {a : Act} {rt : TypeId} {xo yo : Operand} {w : World} {y z : Nat → Nat} (b : Bool) (hop : o.op = .binOp .eql 24 xo yo rt) (hx : a.eval xo = rootV y) (hy : a.eval yo = rootV z) (hb : b = true ↔ ∀ i, i < 32 → y i = z i) : (execOp a.eval o).run Tryd.prog w = .ok (.value (.bool b)) w :=
 zqn 3 32 (u8v y) (u8v z) b hop hx hy Ty24 rfl (by kernel_rfl) (by omega) (by kernel_rfl) (TreeSt.zjx y z) (TreeSt.zqp y z b hb)
theorem zer {ops : Array Oper} {B : Nat} {w0 : World} {o : Oper} {lk : Tmp → SF} {rt : TypeId} {xo yo : Operand} {y z : Nat → Nat} (b : Bool) (hg : o.guard = none) (hop : o.op = .binOp .eql 24 xo yo rt) (hx : OpK lk xo (rootV y)) (hy : OpK lk yo (rootV z)) (hb : b = true ↔ ∀ i, i < 32 → y i = z i) : opOb Tryd.prog ops B w0 o (sI (.bool b)) lk :=
 zbw _ hg fun a w _ hf => zve b hop (hx.eval hf (by rw [hop]; simp [Op.operands])) (hy.eval hf (by rw [hop]; simp [Op.operands])) hb
noncomputable def cs : Array Value := (Tryd.prog.built 66 []).getD #[]
theorem zvf : cs.size = 86 := by kernel_rfl
noncomputable def V0 : Nat → Value := fun q => cs.getD q undef
theorem zs5 : Tryd.prog.built 66 [] = some (arr 86 V0) := by
 have h : (Tryd.prog.built 66 []).isSome = true := by kernel_rfl
 have e : cs = arr 86 V0 := by rw [← zvf]; exact zgy cs
 rw [← e]
 unfold cs
 cases hb : Tryd.prog.built 66 [] with
 | none => rw [hb] at h; cases h
 | some x => rfl
theorem zxi : Sc V0 66 := by
 have h : (DataW.trod (H := Unit) (fun _ => ()) Tryd.prog default 0 (fun _ => true) true 8 66 cs.toList).isSome = true := by kernel_rfl
 obtain ⟨y, hy⟩ := Option.isSome_iff_exists.1 h
 refine TyF.sc (TyF.of_trod hy fun i v hv => ?_)
 unfold V0
 rw [Array.getElem?_toList] at hv
 simp [Array.getD, Array.getElem?_eq_some_iff] at hv ⊢
 obtain ⟨h1, h2⟩ := hv
 rw [dif_pos h1]; exact h2
theorem zwx : effF V0 0 = 0 ∧ epB (nat (V0 82)) = true ∧ epB (nat (V0 83)) = true ∧ epB (nat (V0 84)) = true ∧ epB (nat (V0 85)) = true := ⟨by kernel_rfl, by kernel_rfl, by kernel_rfl, by kernel_rfl, by kernel_rfl⟩
theorem zwy (w : World) : (Instr.buildSlice 37 1 #[(0, .int .u64 5)]).run Tryd.prog w = .ok (.slice (some ⟨w.heap.size, 0, none⟩) 1 1) (w.alloc (.cells #[.int .u64 5] 22)) := by simp [go_sem]
theorem zvg (w : World) : (Instr.buildSlice 37 1 #[(0, .int .u64 0)]).run Tryd.prog w = .ok (.slice (some ⟨w.heap.size, 0, none⟩) 1 1) (w.alloc (.cells #[.int .u64 0] 22)) := by simp [go_sem]
theorem zrf (w : World) : (Instr.buildSlice 39 1 #[(0, .int .u8 0)]).run Tryd.prog w = .ok (.slice (some ⟨w.heap.size, 0, none⟩) 1 1) (w.alloc (.cells #[.int .u8 0] 5)) := by simp [go_sem]
theorem zm7 (s1 s2 s3 s4 s5 : Value) : (fun i => (awS s1 s2 s3 s4 s5).getD i undef) = fun i => if i = 1092 then s5 else if i = 988 then s4 else if i = 987 then s3 else if i = 722 then s2 else if i = 721 then s1 else z49.getD i undef := by
 funext i
 unfold awS
 simp only [zl2]
 have hs := zc8
 simp only [Array.size_setIfInBounds, hs]
 by_cases h1 : i = 1092
 ·subst h1; simp
 by_cases h2 : i = 988
 ·subst h2; simp
 by_cases h3 : i = 987
 ·subst h3; simp
 by_cases h4 : i = 722
 ·subst h4; simp
 by_cases h5 : i = 721
 ·subst h5; simp
 rw [if_neg (fun h => h1 h.1.symm), if_neg (fun h => h2 h.1.symm), if_neg (fun h => h3 h.1.symm), if_neg (fun h => h4 h.1.symm), if_neg (fun h => h5 h.1.symm), if_neg h1, if_neg h2, if_neg h3, if_neg h4, if_neg h5]
structure GSt (G : Nat → Value) (b2 b3 b4 b5 b6 : Nat) : Prop where
 built : Tryd.prog.built 49 [(11, (.slice (some ⟨b2, 0, none⟩) 1 1)), (12, (.slice (some ⟨b3, 0, none⟩) 1 1)), (15, (.slice (some ⟨b4, 0, none⟩) 1 1)), (16, (.slice (some ⟨b5, 0, none⟩) 1 1)), (21, (.slice (some ⟨b6, 0, none⟩) 1 1))] = some (arr 1957 G)
 one : ∀ i, i < 1957 → (G i).oneCell' = true
 sc : Sc G 49
 z : ∀ i, i ≠ 721 → i ≠ 722 → i ≠ 987 → i ≠ 988 → i ≠ 1092 → G i = z49.getD i undef
 g721 : G 721 = (.slice (some ⟨b2, 0, none⟩) 1 1)
 g722 : G 722 = (.slice (some ⟨b3, 0, none⟩) 1 1)
 g987 : G 987 = (.slice (some ⟨b4, 0, none⟩) 1 1)
 g988 : G 988 = (.slice (some ⟨b5, 0, none⟩) 1 1)
 g1092 : G 1092 = (.slice (some ⟨b6, 0, none⟩) 1 1)
theorem zs6 (b2 b3 b4 b5 b6 : Nat) : ∃ G : Nat → Value, GSt G b2 b3 b4 b5 b6 := by
 refine ⟨fun i => (awS (.slice (some ⟨b2, 0, none⟩) 1 1) (.slice (some ⟨b3, 0, none⟩) 1 1) (.slice (some ⟨b4, 0, none⟩) 1 1) (.slice (some ⟨b5, 0, none⟩) 1 1) (.slice (some ⟨b6, 0, none⟩) 1 1)).getD i undef, ?_⟩
 refine ⟨(zpp _ _ _ _ _).trans (congrArg some (by rw [← zrs]; exact zgy _)), fun i hi => zto _ _ _ _ _ rfl rfl rfl rfl rfl i hi, ?_, ?_, ?_, ?_, ?_, ?_, ?_⟩
 ·rw [zm7]
  exact ((((zvm.slice_cell 721 (t := 36) (by kernel_rfl) Ty36 _).slice_cell 722 (t := 37) (by kernel_rfl) Ty37 _).slice_cell 987 (t := 39) (by kernel_rfl) Ty39 _).slice_cell 988 (t := 39) (by kernel_rfl) Ty39 _).slice_cell 1092 (t := 37) (by kernel_rfl) Ty37 _
 ·intro i h1 h2 h3 h4 h5
  rw [congrFun (zm7 _ _ _ _ _) i, if_neg h5, if_neg h4, if_neg h3, if_neg h2, if_neg h1]
 all_goals rw [congrFun (zm7 _ _ _ _ _)]; simp
noncomputable def sA (G : Nat → Value) (b2 b3 b4 b5 b6 m : Nat) : StV := { F := G, aV := some ⟨b2, 0, none⟩, nV := 1, cV := 1, V := V0, aB := some ⟨b3, 0, none⟩, nB := 1, cB := 1, Bal := fun _ => .int .u64 (m : Int), aP := some ⟨b4, 0, none⟩, nP := 1, cP := 1, Prv := fun _ => .int .u8 0, aC := some ⟨b5, 0, none⟩, nC := 1, cC := 1, Cur := fun _ => .int .u8 0, aS := some ⟨b6, 0, none⟩, nS := 1, cS := 1, Sco := fun _ => .int .u64 0, aH := none, nH := 0, cH := 0, His := fun _ => undef, aE := none, nE := 0, cE := 0, Vot := fun _ => undef }
theorem zxj : nat (z49.getD 33 undef) = 0 ∧ nat (z49.getD 720 undef) = 0 ∧ nat (z49.getD 43 undef) = 0 ∧ nat (z49.getD 993 undef) = 0 ∧ nat (z49.getD 1026 undef) = 0 ∧ nat (z49.getD 1059 undef) = 0 := ⟨by kernel_rfl, by kernel_rfl, by kernel_rfl, by kernel_rfl, by kernel_rfl, by kernel_rfl⟩
theorem zxk : ∀ i, i < 8 → nat (z49.getD (979 + i) undef) = 0 := fun i hi => by
 have h : (List.range 8).all (fun i => nat (z49.getD (979 + i) undef) == 0) = true := by kernel_rfl
 exact eq_of_beq (List.all_eq_true.1 h i (List.mem_range.2 hi))
theorem zjk {G : Nat → Value} {b2 b3 b4 b5 b6 m : Nat} (h : GSt G b2 b3 b4 b5 b6) (hm : m ≤ 1000) : RightF (sA G b2 b3 b4 b5 b6 m) := by
 have z := zxj
 have g : ∀ i, i ≠ 721 → i ≠ 722 → i ≠ 987 → i ≠ 988 → i ≠ 1092 → G i = z49.getD i undef := h.z
 have g33 : nat (G 33) = 0 := by rw [g 33 (by omega) (by omega) (by omega) (by omega) (by omega)]; exact z.1
 have g720 : nat (G 720) = 0 := by rw [g 720 (by omega) (by omega) (by omega) (by omega) (by omega)]; exact z.2.1
 have g43 : nat (G 43) = 0 := by rw [g 43 (by omega) (by omega) (by omega) (by omega) (by omega)]; exact z.2.2.1
 have g993 : nat (G 993) = 0 := by rw [g 993 (by omega) (by omega) (by omega) (by omega) (by omega)]; exact z.2.2.2.1
 have g1026 : nat (G 1026) = 0 := by rw [g 1026 (by omega) (by omega) (by omega) (by omega) (by omega)]; exact z.2.2.2.2.1
 have g1059 : nat (G 1059) = 0 := by rw [g 1059 (by omega) (by omega) (by omega) (by omega) (by omega)]; exact z.2.2.2.2.2
 refine { n := by show 1 ≤ 65536; omega, nB := rfl, nP := rfl, nC := rfl, nS := rfl, nH := by show 0 ≤ 1024; omega, nE := by show 0 ≤ 8; omega, slot := by show nat (G 33) < _; omega, dep := by show nat (G 720) < _; omega, head := by show nat (G 43) ≤ nat (G 33); omega, oldJ := by show nat (G 993) ≤ nat (G 33) / 4; omega, just := by show nat (G 1026) ≤ nat (G 33) / 4; omega, fin := by show nat (G 1059) ≤ nat (G 33) / 4; omega, val := fun i hi => ?_, bal := ?_, sla := ?_ }
 ·obtain rfl : i = 0 := by have : i < 1 := hi; omega
  have v := zwx
  show effF V0 0 ≤ _ ∧ effF V0 0 % _ = 0 ∧ epB (nat (V0 (0 * 86 + 82))) = true ∧ epB (nat (V0 (0 * 86 + 83))) = true ∧ epB (nat (V0 (0 * 86 + 84))) = true ∧ epB (nat (V0 (0 * 86 + 85))) = true ∧ nat (Value.int .u64 0) ≤ _
  rw [v.1]
  exact ⟨by omega, rfl, v.2.1, v.2.2.1, v.2.2.2.1, v.2.2.2.2, by show (0 : Int).toNat ≤ _; simp⟩
 ·show sumTo (fun _ => nat (.int .u64 (m : Int))) 1 ≤ _
  rw [zks, zka]; omega
 ·show sumTo (fun i => nat (G (979 + i))) 8 ≤ _
  rw [zit (z := fun _ => 0) (fun i hi => by rw [g (979 + i) (by omega) (by omega) (by omega) (by omega) (by omega)]; exact zxk i hi)]
  simp [sumTo]
theorem ztj {G : Nat → Value} {b1 b2 b3 b4 b5 b6 m : Nat} (h : GSt G b2 b3 b4 b5 b6) (hm : m ≤ 1000) {w0 w : World} (hs : HS w0 w [⟨b1, 49, 1957, G⟩, ⟨b6, 22, 1, fun _ => .int .u64 0⟩, ⟨b5, 5, 1, fun _ => .int .u8 0⟩, ⟨b4, 5, 1, fun _ => .int .u8 0⟩, ⟨b3, 22, 1, fun _ => .int .u64 (m : Int)⟩, ⟨b2, 66, 86, V0⟩]) : StOk w w.heap.size (sA G b2 b3 b4 b5 b6 m) := by
 have ml : (1 : Nat) ≤ 1 ∧ 1 ≤ maxLen := ⟨by omega, by unfold maxLen; omega⟩
 have ml0 : (0 : Nat) ≤ 0 ∧ 0 ≤ maxLen := ⟨by omega, by omega⟩
 exact {
  sc := h.sc, f7 := (h.z 653 (by omega) (by omega) (by omega) (by omega) (by omega)).trans (by kernel_rfl), f9 := (h.z 719 (by omega) (by omega) (by omega) (by omega) (by omega)).trans (by kernel_rfl), f11 := h.g721, f12 := h.g722, f15 := h.g987, f16 := h.g988, f21 := h.g1092, lV := ml, lB := ml, lP := ml, lC := ml, lS := ml, lH := ml0, lE := ml0,
  rV := Rd.of_row (n := 1 * 86) (hs.row 5 rfl) lR (hs.lt 5 rfl), rB := Rd.of_row (n := 1) (hs.row 4 rfl) lR (hs.lt 4 rfl), rP := Rd.of_row (n := 1) (hs.row 3 rfl) lR (hs.lt 3 rfl), rC := Rd.of_row (n := 1) (hs.row 2 rfl) lR (hs.lt 2 rfl), rS := Rd.of_row (n := 1) (hs.row 1 rfl) lR (hs.lt 1 rfl), rH := Rd.none_, rE := Rd.none_,
  scV := fun i hi => by
   obtain rfl : i = 0 := by have : i < 1 := hi; omega
   exact zxi.congr fun q => by show V0 q = V0 (0 * 86 + q); rw [Nat.zero_mul, Nat.zero_add],
  scB := fun i _ => by show Value.int .u64 (m : Int) = .int .u64 ((nat (.int .u64 (m : Int)) : Nat) : Int) ∧ nat (.int .u64 (m : Int)) < _; rw [zka]; exact ⟨rfl, by omega⟩,
  scP := fun i _ => ⟨rfl, by show (0 : Int).toNat < 256; simp⟩,
  scC := fun i _ => ⟨rfl, by show (0 : Int).toNat < 256; simp⟩,
  scS := fun i _ => ⟨rfl, by show (0 : Int).toNat < _; simp⟩,
  scH := fun i hi => absurd hi (Nat.not_lt_zero i), scE := fun i hi => absurd hi (Nat.not_lt_zero i) }
end LiveAwake
open LiveAwake in
set_option maxRecDepth 100000 in
theorem zns (w : World) (hp : ShaPkg w) (hpt : TzPkg w) : Calls Tryd.prog 5 #[] w fun e w' => e = .returned (.bool true) ∧ Below w.heap.size w w' := by
 have HP := Hd hp
 have HPt := Hd hpt
 have hpl := hp.lt
 have htl := hpt.lt
 have HS0 := Hd (HS.nil w)
 have tk0 := Tok.mk 0
 have tk1 := Tok.mk 1
 have tk2 := Tok.mk 2
 have tk3 := Tok.mk 3
 have tk4 := Tok.mk 4
 have tk5 := Tok.mk 5
 clear hp hpt
 go_enter Tryd.func5, Tryd.ntmps5
 go_upto_region 2 with (first
  | (refine zbx rfl 66 #[] rfl [] rfl (arr 86 V0) zs5 ?_)
  | ((with_reducible refine at_l ?_); first
   | (clear tk0; refine zbu rfl Ty36 (z := 86) (by kernel_rfl) (by omega) (by omega) (v0 := .agg (zeroOf Tryd.prog 66)) (by kernel_rfl) _ rfl V0 rfl HS0.out ?_; intro b2 w2 hb2 hc2 hs; have HS2 := Hd hs; clear hs)
   | (clear tk1; refine zcj rfl (.const (.int .u64 5)) (.int .u64 5) rfl rfl (fun w => zwy w) HS2.out ?_; intro b3 w3 hb3 hcb3 hlb3 hs; have HS3 := Hd hs; clear hs hlb3)
   | (clear tk2; refine zcj rfl (.const (.int .u8 0)) (.int .u8 0) rfl rfl (fun w => zrf w) HS3.out ?_; intro b4 w4 hb4 hcb4 hlb4 hs; have HS4 := Hd hs; clear hs hlb4)
   | (clear tk3; refine zcj rfl (.const (.int .u8 0)) (.int .u8 0) rfl rfl (fun w => zrf w) HS4.out ?_; intro b5 w5 hb5 hcb5 hlb5 hs; have HS5 := Hd hs; clear hs hlb5)
   | (clear tk4; refine zcj rfl (.const (.int .u64 0)) (.int .u64 0) rfl rfl (fun w => zvg w) HS5.out ?_; intro b6 w6 hb6 hcb6 hlb6 hs; have HS6 := Hd hs; clear hs hlb6)
   | (refine zac rfl 49 1 rfl rfl HS6.out z49 zi6 1957 (fun i => z49.getD i undef) zc8 (fun i hi => zgx i (by rw [zc8]; exact hi)) ?_; intro b1 w7 hb1 hc1 hs; have HS7 := Hd hs; clear hs)
   | (refine zaf rfl 49 (.tmp 1) (.tmp 11) rfl HS7.out 0 rfl G rfl rfl (by kernel_rfl) HG.out.one ?_; intro wq hs; have HSq : Hid (HS w wq [⟨b1, 49, 1957, G⟩, ⟨b6, 22, 1, fun _ => .int .u64 0⟩, ⟨b5, 5, 1, fun _ => .int .u8 0⟩, ⟨b4, 5, 1, fun _ => .int .u8 0⟩, ⟨b3, 22, 1, fun _ => .int .u64 ((5 : Nat) : Int)⟩, ⟨b2, 66, 86, V0⟩]) := Hd hs; clear hs HS7))
  | (clear tk5; obtain ⟨G, hG⟩ := zs6 b2 b3 b4 b5 b6; have HG := Hd hG; clear hG; refine zbx rfl 49 #[(11, .tmp 6), (12, .tmp 7), (15, .tmp 8), (16, .tmp 9), (21, .tmp 10)] rfl [(11, (.slice (some ⟨b2, 0, none⟩) 1 1)), (12, (.slice (some ⟨b3, 0, none⟩) 1 1)), (15, (.slice (some ⟨b4, 0, none⟩) 1 1)), (16, (.slice (some ⟨b5, 0, none⟩) 1 1)), (21, (.slice (some ⟨b6, 0, none⟩) 1 1))] rfl (arr 1957 G) HG.out.built ?_))
 obtain ⟨B, hB⟩ : ∃ B, B = wq.heap.size := ⟨_, rfl⟩
 have hszq := HSq.out.size
 have hwB : w.heap.size ≤ B := by omega
 have HPB : Hid (0 < B ∧ 1 < B) := Hd ⟨by omega, by omega⟩
 have HTB : Hid (2 < B) := Hd (by omega)
 have HwB := Hd hwB
 have hl3 : b3 < B := by rw [hB]; exact HSq.out.lt 4 rfl
 go_upto_region 3 with (first
  | ((with_reducible refine at_l ?_); refine zae rfl 49 (.tmp 1) rfl 1957 _ Ty49 rfl (by kernel_rfl) ⟨b1, 0, none⟩ rfl G (fun i hi => by rw [zai]; exact (HSq.out.row 0 rfl).cell hi) ?_)
  | (go_at_call 6; refine (zlc (sA G b2 b3 b4 b5 b6 5) _ (ztj HG.out (by omega) HSq.out) (zjk HG.out (by omega)) (HP.out.below (HSq.out.out (by simp; omega)))).mono ?_; rintro r w8 ⟨L, t, T, v, rfl, hl, hsm, hb⟩; rw [← hB] at hl hb; have HL8 := Hd hl; have HSm := Hd hsm; have HB8 := Hd hb; clear hl hsm hb))
 have HR6 : Hid (RightF { t with Bal := putC t.Bal 0 (.int .u64 ((6 : Nat) : Int)) }) := Hd (by
  refine { HL8.out.right with bal := ?_ }
  show sumTo (fun i => nat (putC t.Bal 0 (.int .u64 ((6 : Nat) : Int)) i)) t.nB ≤ _
  rw [HSm.out.nB]
  show sumTo _ 1 ≤ _
  rw [zks]
  show nat (if 0 = 0 then _ else _) ≤ _
  rw [if_pos rfl, zka]; omega)
 have tk6 := Tok.mk 6
 go_upto_region 5 with (first
  | (go_at_call 8; clear tk6; refine (zu6 B L 1 6 1 t T _ v HL8.out.lm HSm.out.nV (.inr (by omega))).mono ?_; rintro r w9 ⟨rfl, hb⟩; have HL9 := Hd (HL8.out.below hb); have HB9 := Hd (thnB HB8.out hb (by rw [hB]; exact HB8.out.size)); clear hb)
  | (go_at_call 8; refine (zwt B L 0 0 6 t T _ v HL9.out (by rw [HSm.out.nV]; show 0 < 1; omega) (by omega) HR6.out ((HP.out.below (HSq.out.out (by simp; omega))).below (hB ▸ HB9.out)) HPB.out).mono ?_; rintro r wA ⟨v2, rfl, hl, hst⟩; have HLA := Hd hl; have HBA := Hd (HB9.out.trans (hst.below HL9.out.lm lR)); clear hl hst))
 have hLM := HLA.out.lm
 have hszA := HBA.out.size
 have HSA := Hd (HSq.out.below (hB ▸ HBA.out))
 go_upto_region 6 with (first
  | ((with_reducible refine at_l ?_); first
   | (refine zab rfl 27 rfl (.slice (some ⟨b3, 0, none⟩) 1 1) ?_ ?_; (· exact zan rfl rfl Ty37 (HSA.out.cell 0 722 rfl (show 722 < 1957 by omega)) HG.out.g722))
   | (refine zab rfl 28 rfl (.pointer (some ⟨b3, 0, none⟩)) ?_ ?_; (· exact zbb rfl rfl rfl (fun w => (zaw (z := 1) (n := 1) (k := 0) w Ty37 (by kernel_rfl) ⟨b3, 0, none⟩ (by omega)).trans (by rw [zai])) _))
   | (refine ShufLawOps.zjr rfl 22 (.tmp 28) (.const (.int .u64 6)) rfl HSA.out 4 rfl 0 (.int .u64 ((6 : Nat) : Int)) (st64 _) rfl rfl (by show 0 < 1; omega) (fun _ => .int .u64 ((6 : Nat) : Int)) (fun j hj => by rw [if_pos (show j = 0 by have : j < 1 := hj; omega)]) ?_; intro w6 hs hg; have HS6 : Hid (HS w w6 [⟨b1, 49, 1957, G⟩, ⟨b6, 22, 1, fun _ => .int .u64 0⟩, ⟨b5, 5, 1, fun _ => .int .u8 0⟩, ⟨b4, 5, 1, fun _ => .int .u8 0⟩, ⟨b3, 22, 1, fun _ => .int .u64 ((6 : Nat) : Int)⟩, ⟨b2, 66, 86, V0⟩]) := Hd hs; have HG6 := Hd hg; clear hs hg)))
 have hc6 : Chg (fun b => b = b3) wA w6 := Chg.of_grown HG6.out (fun b e => .inl (by injection e with e; exact e.symm))
 have HL6 : Hid (LV w6 B L { t with Bal := putC t.Bal 0 (.int .u64 ((6 : Nat) : Int)) } T v2 0) := Hd ⟨HLA.out.lm.chg hc6 (fun b hb e => by
  rcases hb with hb | hb
  ·have := HLA.out.lm.ge hb; omega
  ·obtain ⟨j, hj, hz⟩ := hb
   have := (HLA.out.lm.tm j hj).zb b hz; omega), HLA.out.st, HLA.out.lim, HLA.out.D, HLA.out.H, HLA.out.right⟩
 have HB6 : Hid (Below w.heap.size w w6) := Hd (HS6.out.out (by simp; omega))
 obtain ⟨t2, ht2⟩ : ∃ t2, t2 = { t with Bal := putC t.Bal 0 (.int .u64 ((6 : Nat) : Int)) } := ⟨_, rfl⟩
 have HEq : Hid (∀ i, i < 32 → stN t2 i = stN (sA G b2 b3 b4 b5 b6 6) i) := Hd (by
  have e : SEq (sA G b2 b3 b4 b5 b6 6) t2 := by
   have q := HSm.out
   rw [ht2]
   exact ⟨q.nV, q.nB, q.nP, q.nC, q.nS, q.nH, q.nE, fun i _ => q.F i, fun i _ => by rw [q.V]; rfl, fun i hi => by
    have : i < 1 := hi
    show (if i = 0 then _ else _) = _
    rw [if_pos (by omega)]; rfl, fun i _ => by show t.Prv i = _; rw [q.Prv]; rfl, fun i _ => by show t.Cur i = _; rw [q.Cur]; rfl, fun i _ => by show t.Sco i = _; rw [q.Sco]; rfl, fun i _ => by show t.His i = _; rw [q.His]; rfl, fun i _ => by show t.Vot i = _; rw [q.Vot]; rfl⟩
  exact zcs (zb5 24) fun i hi => by unfold stX; exact zre e (zjk HG.out (by omega)) HG.out.sc _ (by omega) _ (by omega))
 rw [← ht2] at HL6
 clear ht2 HLA HL9 HL8 HSm HR6 HSA HSq hLM hc6 HG6
 go_upto_region 7 with (first
  | ((with_reducible refine at_l ?_); refine zae rfl 49 (.tmp 1) rfl 1957 _ Ty49 rfl (by kernel_rfl) ⟨b1, 0, none⟩ rfl G (fun i hi => by rw [zai]; exact (HS6.out.row 0 rfl).cell hi) ?_)
  | (go_at_call 12; refine (zkn (sA G b2 b3 b4 b5 b6 6) _ (ztj HG.out (by omega) HS6.out) (zjk HG.out (by omega)) (HP.out.below HB6.out)).mono ?_; rintro r w7 ⟨rfl, hb⟩; have HL7 := Hd (HL6.out.below hb); have HB7 := Hd (thnB HB6.out hb HB6.out.size); have HW7 := Hd hb.size; clear hb)
  | (refine zbk rfl rfl 24 24 3 (.tmp 32) rfl rfl rfl 32 (Array.replicate 32 (.int .u8 0)) (by kernel_rfl) (by rfl) (arr 32 (u8v (stN (sA G b2 b3 b4 b5 b6 6)))) rfl rfl (zam _ _) (by kernel_rfl) (fun q hq => ⟨_, zaq _ _ _ hq, rfl⟩) (u8v (stN (sA G b2 b3 b4 b5 b6 6))) (fun q hq => zaq _ _ _ hq) ?_; intro w9 hr hb; have HR9 := Hd hr; have HLV := Hd (HL7.out.below hb); have HB9' := Hd (thnB HB7.out hb HB7.out.size); clear hr hb; simp only [pcX]))
 obtain ⟨b3r, hb3r⟩ : ∃ b3r, b3r = w7.heap.size := ⟨_, rfl⟩
 rw [← hb3r] at HR9
 rw [← hb3r]
 have HP9 := Hd (HP.out.below HB9'.out)
 have HPt9 := Hd (HPt.out.below HB9'.out HPt.out.lt)
 have HN9 : Hid (¬ LOwn L t2 T v2 b3r) := Hd (fun hb => by have := HL7.out.lm.lt hb; omega)
 refine zeu (l := [_, _, _, _, _, _, _, _, _]) (N := 1) (fun k wj => (k = 0 → LV wj B L t2 T v2 0 ∧ ShaPkg wj ∧ TzPkg wj) ∧ wj.rowIs b3r 24 32 (u8v (stN (sA G b2 b3 b4 b5 b6 6))) ∧ Below w.heap.size w wj) [sI (.int .i64 0), sI (.bool true), sI (.bool true), sI (.pointer (some ⟨L, 0, none⟩)), sI (rootV (stN t2)), sI (rootV (stN (sA G b2 b3 b4 b5 b6 6))), sI (.bool true), sI (.bool true), sI (.bool true)] [none, none, none, none, some 0, none, none, none, none] (by kernel_rfl) (by kernel_rfl) (by kernel_rfl) rfl rfl (fun k w1 w2 ⟨h1, h2, h3⟩ hb => ⟨fun e => ⟨(h1 e).1.below hb, (h1 e).2.1.below hb, (h1 e).2.2.below hb (h1 e).2.2.lt⟩, zaj h2 hb h2.lt, thnB h3 hb h3.size⟩) (zkl (Fs := [.int .i64 0, .bool true, .bool true, .pointer (some ⟨L, 0, none⟩), rootV (stN t2), rootV (stN (sA G b2 b3 b4 b5 b6 6)), .bool true, .bool true, .bool true])) (⟨fun _ => ⟨HLV.out, HP9.out, HPt9.out⟩, HR9.out, HB9'.out⟩) ⟨?_, ?_, ?_, ?_, ?_, ?_, ?_, ?_, ?_, trivial⟩ ?_
 ·exact fun kj wj hj => (zaa _ rfl (.inl rfl) rfl)
 ·exact fun kj wj hj => zfq .i64 0 0 true Ty54 (by simp) rfl rfl (oT rfl) OpK.const
 ·exact fun kj wj hj => (zaa _ rfl (.inl rfl) rfl)
 ·exact fun kj wj hj => zav 36 rfl rfl ((zaa _ rfl (.inl rfl) rfl))
 ·exact zm0 36 rfl rfl (zkm zio rfl rfl (oT rfl) (fun wj ⟨h1, h2, h3⟩ => (zdo B L 0 t2 T wj v2 (h1 rfl).1 (by omega) (h1 rfl).2.1 HPB.out (h1 rfl).2.2 HTB.out).mono fun e w2 ⟨v', he, k1, k2⟩ => ⟨_, he, rfl, ⟨fun e => absurd e (Nat.succ_ne_zero _), k2.chg.row h2 HN9.out, h3.trans (k2.below (h1 rfl).1.lm HwB.out)⟩⟩))
 ·exact fun kj wj hj => zav 36 rfl rfl (zad rfl rfl (oT rfl) (fun w' hb => zd2 hj.2.1 hj.2.1.lt Ty24 rfl s24 w' hb))
 ·exact fun kj wj hj => zav 36 rfl rfl (zer true rfl rfl (oT rfl) (oT rfl) ⟨fun _ => HEq.out, fun _ => rfl⟩)
 ·exact fun kj wj hj => zcn rfl rfl rfl (oT rfl)
 ·exact fun kj wj hj => (zaa _ rfl (.inr rfl) rfl)
 ·intro wn hj
  simp only [fin, sI, forall_eq]
  simp only [pcX]
  have HBe := Hd hj.2.2
  clear hj
  go_wp2_with fail
  go_ret
  exact ⟨rfl, HBe.out⟩
end Go.Proofs.YtomilckcgmhfcaaDoor
namespace Go.Proofs.YtomilckcgmhfcaaDoor
set_option maxRecDepth 40000
set_option maxHeartbeats 64000000
open Go.RowKit Go.ChangeShapes Go.WideShapes Go.ChangeAt
theorem zib {P : Program} {W : World} {x : String × DataW Unit} {rest : List (String × DataW Unit)} {ps : List MemPlace} (h : DataW.LaidVars P W (x :: rest) ps) : ∃ q, DataW.LaidVars P W rest q := by
 obtain ⟨g', t', cs, fuel, p, q, _, _, _, _, h1, _⟩ := h
 exact ⟨q, h1⟩
theorem zj7 {P : Program} {W : World} {name : String} {k : IntKind} {zs : List Int} {rest : List (String × DataW Unit)} {g : Nat} {t e : TypeId} {n : Nat} {ps : List MemPlace}
    (hg : P.globalNamed name = some g) (hty : (P.globals[g]?).map (·.type) = some t) (ht : P.underlying t = some (.array n e)) (he : P.underlying e = some (.int k)) (hce : P.cellsOf e = 1) (hct : P.cellsOf t = n)
    (h : DataW.LaidVars P W ((name, Lib.tabData k zs) :: rest) ps) (i : Nat) (hi : i < zs.length) : W.cell? ⟨g, i, none⟩ = some (.int k (zs.getD i 0)) := by
 obtain ⟨g', t', cs, fuel, p, q, hg', ht', hvar, hd, _, _⟩ := h
 obtain rfl := Option.some.inj (hg.symm.trans hg')
 obtain rfl := Option.some.inj (hty.symm.trans ht')
 have hT : Lib.TabIs P W name k zs := by
  unfold Lib.TabIs
  rw [hvar, ← Lib.cells_of_tab ht he hce hct hd]
 exact hT.cell hg i hi
noncomputable def laidInto (w : World) (g : Nat) (cs : Array Value) : World :=
 { w with heap := w.heap.modify g fun
     | .cells _ t frozen => .cells cs t frozen
     | o => o }
end Go.Proofs.YtomilckcgmhfcaaDoor
namespace Go.Proofs.YtomilckcgmhfcaaDoor
set_option maxRecDepth 40000
set_option maxHeartbeats 64000000
open Go.RowKit Go.ChangeShapes Go.WideShapes Go.ChangeAt

def zsK : List Int := kList.map fun n : Nat => (n : Int)
def zsH : List Int := hList.map fun n : Nat => (n : Int)
theorem zrg : ∀ i, i < 64 → zsK.getD i 0 = ((kw i).toNat : Int) := by decide +kernel
theorem zwz : ∀ i, i < 8 → zsH.getD i 0 = ((h0 i).toNat : Int) := by decide +kernel
theorem zrh {W : World} {rest : List (String × DataW Unit)} {ps : List MemPlace} (h : DataW.LaidVars Tryd.prog W (("pharos/sha.start", Rows.laid_pharos_sha_start) :: rest) ps) : ∀ i, i < 8 → W.cell? ⟨0, i, none⟩ = some (wv (h0 i)) := fun i hi => by
 have h' : DataW.LaidVars Tryd.prog W (("pharos/sha.start", Lib.tabData .u32 zsH) :: rest) ps := h
 have := zj7 (P := Tryd.prog) (g := 0) (t := 113) (e := 112) (n := 8) (by kernel_rfl) (by kernel_rfl) Ty113 Ty112 (by kernel_rfl) (by kernel_rfl) h' i hi
 rw [this, zwz i hi]
theorem zri {W : World} {rest : List (String × DataW Unit)} {ps : List MemPlace} (h : DataW.LaidVars Tryd.prog W (("pharos/sha.round", Rows.laid_pharos_sha_round) :: rest) ps) : ∀ i, i < 64 → W.cell? ⟨1, i, none⟩ = some (wv (kw i)) := fun i hi => by
 have h' : DataW.LaidVars Tryd.prog W (("pharos/sha.round", Lib.tabData .u32 zsK) :: rest) ps := h
 have := zj7 (P := Tryd.prog) (g := 1) (t := 144) (e := 112) (n := 64) (by kernel_rfl) (by kernel_rfl) Tryd.underlying144 Ty112 (by kernel_rfl) (by kernel_rfl) h' i hi
 rw [this, zrg i hi]
theorem zlm {W : World} {rest : List (String × DataW Unit)} {ps : List MemPlace} (h : DataW.LaidVars Tryd.prog W (("pharos/pharosref02.constants", Rows.laid_pharos_pharosref02_constants) :: rest) ps) : ∀ i, i < 64 → W.cell? ⟨3, i, none⟩ = some (wv (kw i)) := fun i hi => by
 have h' : DataW.LaidVars Tryd.prog W (("pharos/pharosref02.constants", Lib.tabData .u32 zsK) :: rest) ps := h
 have := zj7 (P := Tryd.prog) (g := 3) (t := 144) (e := 112) (n := 64) (by kernel_rfl) (by kernel_rfl) Tryd.underlying144 Ty112 (by kernel_rfl) (by kernel_rfl) h' i hi
 rw [this, zrg i hi]
def csK : Array Value := (zsK.map (Value.int .u32)).toArray
def csH : Array Value := (zsH.map (Value.int .u32)).toArray
end Go.Proofs.YtomilckcgmhfcaaDoor
