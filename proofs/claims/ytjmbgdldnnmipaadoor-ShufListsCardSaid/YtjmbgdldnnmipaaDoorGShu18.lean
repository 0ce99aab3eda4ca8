/- A part of what the proofs stand on: ShufRefRound, ShufRefPlace, ShufRefList, Row, Laid, ShaLaid, ShufLawOps. -/
import Derived.Test.YtjmbgdldnnmipaaDoorGShu16
import Derived.Test.YtjmbgdldnnmipaaDoorGShu13
import Derived.Test.YtjmbgdldnnmipaaDoorGShu7
import Derived.Test.YtjmbgdldnnmipaaDoorGShu17
import Derived.Test.YtjmbgdldnnmipaaDoorGShu8
import Derived.Test.YtjmbgdldnnmipaaDoorGShu2
import Derived.ProofKit
import Derived.OpenShut
import Derived.ShutString
import Derived.SizedLaws
import Derived.JoinedCond
import Derived.Deep.Grids
import Derived.Test.YtjmbgdldnnmipaaDoorGShu4
import Derived.WideKeyArr2
import Derived.Lib.LaidTab
import Derived.Deep.DeepHandedRow
import Derived.Test.YtjmbgdldnnmipaaDoorGShu11
import Derived.KernelRfl
/- A round, by the reference. (Printed by a program of mine.) -/
namespace Go.Proofs.YtjmbgdldnnmipaaDoor
set_option maxRecDepth 40000
open Go.RowKit
namespace ShufRef
theorem run_bs0_U (w : World) : (Instr.buildSlice 35 0 #[]).run Tryd.prog w = .ok (.slice (some ⟨w.heap.size, 0, none⟩) 0 0) (w.alloc (.cells #[] 5)) := by simp [go_sem]
theorem quoU (a c q : Nat) (hc : 0 < c) (h : a / c = q) (ha : a < 18446744073709551616) (w : World) : (binOp .quo 25 (.int .u64 (a : Int)) (.int .u64 (c : Int))).run Tryd.prog w = .ok (.int .u64 (q : Int)) w := by
  have _h0 : (c : Int) ≠ 0 := by omega
  have e : (a : Int) / (c : Int) = (q : Int) := by rw [← h]; rfl
  have hl : q < 18446744073709551616 := by rw [← h]; exact Nat.lt_of_le_of_lt (Nat.div_le_self _ _) ha
  have e2 : IntKind.u64.wrap (q : Int) = (q : Int) := by rw [IntKind.wrap_u64]; omega
  have _h1 : ¬ c = 0 := by omega
  simp [go_sem]
  rw [if_neg _h1, e, e2]
theorem remK (a c q : Nat) (hc : 0 < c) (h : a % c = q) (ha : a < 18446744073709551616) (w : World) : (binOp .rem 25 (.int .u64 (a : Int)) (.int .u64 (c : Int))).run Tryd.prog w = .ok (.int .u64 (q : Int)) w := by
  rw [← h]; exact ShufRounds.remU a c hc ha w
theorem quo8 (a q : Nat) (h : a / 8 = q) (ha : a < 18446744073709551616) (w : World) : (binOp .quo 25 (.int .u64 (a : Int)) (.int .u64 8)).run Tryd.prog w = .ok (.int .u64 (q : Int)) w := quoU a 8 q (by omega) h ha w
theorem quo256 (a q : Nat) (h : a / 256 = q) (ha : a < 18446744073709551616) (w : World) : (binOp .quo 25 (.int .u64 (a : Int)) (.int .u64 256)).run Tryd.prog w = .ok (.int .u64 (q : Int)) w := quoU a 256 q (by omega) h ha w
theorem rem8 (a q : Nat) (h : a % 8 = q) (ha : a < 18446744073709551616) (w : World) : (binOp .rem 25 (.int .u64 (a : Int)) (.int .u64 8)).run Tryd.prog w = .ok (.int .u64 (q : Int)) w := remK a 8 q (by omega) h ha w
theorem rem256 (a q : Nat) (h : a % 256 = q) (ha : a < 18446744073709551616) (w : World) : (binOp .rem 25 (.int .u64 (a : Int)) (.int .u64 256)).run Tryd.prog w = .ok (.int .u64 (q : Int)) w := remK a 256 q (by omega) h ha w
theorem u8_info : (Tryd.prog.info? 5).map (fun i => (i.zero, i.size, i.bytes)) = some (some (.int .u8 0), 1, 1) := by kernel_rfl
theorem cat_Fn (k : Nat) (x y : Nat → Nat) (n : Nat) : ∀ i, i < n → catF k (u8v x) (u8v y) i = u8v (catN k x y) i := fun i _ => by
  simp only [catF, u8v, catN]; split <;> rfl
theorem cat_pre {s : Nat → Nat} {r : Nat} : ∀ q, q < 33 * 1 → catF (32 * 1) (u8v s) (fun _ => .int .u8 ((r : Nat) : Int)) q = u8v (preN s r) q := fun q _ => by
  simp only [catF, u8v, preN, catN, Nat.mul_one]
  split <;> rfl
theorem cat_blk {s : Nat → Nat} {r q0 : Nat} : ∀ q, q < 37 * 1 → catF (33 * 1) (u8v (preN s r)) (u8v (leB q0)) q = u8v (catN 33 (preN s r) (leB q0)) q := fun q _ => by
  simp only [catF, u8v, catN, Nat.mul_one]
  split <;> rfl
end ShufRef
open ShufRef ShufFn ShufRounds in
set_option maxHeartbeats 16000000 in
theorem round_ref (s : Nat → Nat) (hs : ∀ i, s i < 256) (n i r : Nat) (w : World) (hn : n ≤ 4294967296) (hi : i < n) (hr : r < 256) (hp : RefPkg w) :
    Calls Tryd.prog 55 #[.int .i64 (r : Int), .int .u64 (i : Int), .int .u64 (n : Int), rootV s] w fun e w' => e = .returned (.int .u64 ((stepN s n r i : Nat) : Int)) ∧ Below w.heap.size w w' := by
  have HS0 := Lib.hid (HS.nil w)
  have HP := Lib.hid hp
  obtain ⟨H, hH⟩ : ∃ H, H = shaB (preN s r) 33 := ⟨_, rfl⟩
  have HHl := Lib.hid (show ∀ i, H i < 256 by rw [hH]; exact fun i => shaB_lt _ _ i)
  have HHe := Lib.hid hH.symm
  obtain ⟨v, hv⟩ : ∃ v, v = pivN s n r := ⟨_, rfl⟩
  have HPv := Lib.hid (show rdN H 8 % n = v by rw [hv, hH]; rfl)
  have HR := Lib.hid (show rdN H 8 < 18446744073709551616 from rdN_lt HHl.out 8)
  have hvn : v < n := by rw [hv]; exact pivN_lt s _ (by omega)
  obtain ⟨f, hf⟩ : ∃ f, f = flipN v n i := ⟨_, rfl⟩
  have hfn : f < n := by rw [hf]; exact flip_lt hvn hi
  have HF := Lib.hid (show (v + n - i) % n = f by rw [hf]; exact flip_mod hvn hi)
  obtain ⟨p, hpm⟩ : ∃ p, p = max i f := ⟨_, rfl⟩
  obtain ⟨q, hq⟩ : ∃ q, q = p / 256 := ⟨_, rfl⟩
  obtain ⟨B, hB⟩ : ∃ B, B = blkN s r q := ⟨_, rfl⟩
  obtain ⟨m, hm⟩ : ∃ m, m = p % 256 := ⟨_, rfl⟩
  obtain ⟨k, hk⟩ : ∃ k, k = m / 8 := ⟨_, rfl⟩
  obtain ⟨y, hy⟩ : ∃ y, y = p % 8 := ⟨_, rfl⟩
  obtain ⟨z, hz⟩ : ∃ z, z = B k / 2 ^ y := ⟨_, rfl⟩
  obtain ⟨b, hb⟩ : ∃ b, b = z % 2 := ⟨_, rfl⟩
  have HE := Lib.hid (show (if b = 1 then f else i) = stepN s n r i by
    unfold stepN stepV turnN bitN
    rw [← hv, ← hf, ← hpm, ← hq, ← hB, ← hm, ← hk, ← hy, ← hz, ← hb]
    by_cases h : b = 1
    · subst h; rfl
    · rw [if_neg h, if_neg (by simpa using h)])
  have hz256 : z < 256 := by rw [hz, hB]; exact Nat.lt_of_le_of_lt (Nat.div_le_self _ _) (blkN_lt s r q k)
  have hk32 : k < 32 := by omega
  have hy8 : y < 8 := by omega
  have hm256 : m < 256 := by omega
  have hb2 : b = 0 ∨ b = 1 := by omega
  have H1 := Lib.hid hq.symm
  have H2 := Lib.hid hm.symm
  have H3 := Lib.hid hk.symm
  have H4 := Lib.hid hy.symm
  have H5 := Lib.hid hz.symm
  have H6 := Lib.hid hb.symm
  have HBe := Lib.hid (show shaB (catN 33 (preN s r) (leB q)) 37 = B by rw [hB]; rfl)
  have HSl := Lib.hid hs
  have HPl := Lib.hid (preN_lt hs hr)
  have HCl := Lib.hid (show ∀ i, catN 33 (preN s r) (leB q) i < 256 from catN_lt HPl.out (leB_lt q))
  have hmax : (i < f ∧ p = f) ∨ (¬ i < f ∧ p = i) := by omega
  have hpn : p < n := by omega
  clear hH hv hf hpm hq hB hm hk hy hz hb hs hp
  rcases hmax with ⟨hif, he⟩ | ⟨hif, he⟩
  · subst he
    have t1 : decide ((i : Int) < (p : Int)) = true := decide_eq_true (by omega)
    go_enter Tryd.func55, Tryd.ntmps55
    go_upto_region 9 with (first
      | (refine wpList_boxL rfl 23 _ 7 rfl rfl HS0.out 32 (u8v s) rfl ?_; intro b7 w1 hb7 hc7 hs; have HS1 := Lib.hid hs; have hb71 : b7 < w1.heap.size := hs.lt 0 rfl; clear hs)
      | (refine wpList_bs0L rfl 1 rfl run_bs0_U HS1.out ?_; intro b17 w2 hb17 hs ho; have HS2 := Lib.hid hs; have HO2 := Lib.hid (ho.mono hb71); clear hs ho)
      | (at_builtin; refine wpList_app0L rfl (.tmp 17) (.tmp 18) 35 (b7 + 1) (z := .int .u8 0) (k := 1) (bytes := 1) (by kernel_rfl) Tryd.underlying35 (by rfl) (by omega) rfl rfl HO2.out rfl (Rd.of_row (HS2.out.row 0 rfl) (show 32 * 1 ≤ 32 by omega) (HS2.out.lt 0 rfl)) (fun _ _ => rfl) ⟨by omega, by omega⟩ (by have := HO2.out.base_le _ rfl; omega) HS2.out ?_; intro A19 c19 w3 ho hs; have HO3 := Lib.hid ho; have HS3 := Lib.hid hs; have h13 : b7 + 1 ≤ w3.heap.size := HS3.out.lt 0 rfl; clear ho hs)
      | (refine wpList_as rfl 21 rfl (.int .u8 (r : Int)) ?_ ?_; (· exact ex_cnv rfl rfl (fun w => cvIB r hr w) _))
      | (refine wpList_bs1s rfl (.tmp 21) (.int .u8 (r : Int)) rfl rfl (fun w => run_bs1_B _ w) (HS.nil w3) ?_; intro b22 w4 hb22 hc22 hbl hs; have HR4 := Lib.hid (hs.row 0 rfl); have HB4 := Lib.hid hbl; clear hs hbl)
      | (at_builtin; refine wpList_appZ _ (.tmp 19) (.tmp 22) 35 (b7 + 1) (e := 5) (z := .int .u8 0) (k := 1) (bytes := 1) (by kernel_rfl) Tryd.underlying35 (by rfl) (by omega) rfl rfl 33 (u8v (preN s r)) rfl rfl (HO3.out.all HB4.out) (Rd.of_row (n := 1 * 1) HR4.out (Nat.le_refl _) HR4.out.lt) (fun _ _ => rfl) rfl cat_pre ⟨by omega, by omega⟩ (Nat.le_trans h13 HB4.out.size) ?_; intro A23 c23 w5 ho hg _; have HO5 := Lib.hid ho; have HS5 := Lib.hid ((HS3.out.below HB4.out).appO hg (B := b7 + 1) (fun ad e => (HO3.out.base_le ad e).1) (by simp; omega)); clear ho hg)
      | (go_at_call 59; refine (refSum_any 33 c23 A23 (preN s r) _ (by have h := HO5.out.rd; rwa [Nat.mul_one] at h) HPl.out (by omega) (HP.out.below (HS5.out.out (by simp; omega)))).mono ?_; rintro e w6 ⟨rfl, hb⟩; rw [HHe.out]; have HS6 := Lib.hid (HS5.out.below hb); have HO6 := Lib.hid (HO5.out.all hb); have HN6 := Lib.hid (HS.nil w6); clear hb)
      | (refine wpList_allocL rfl 23 10 rfl rfl HN6.out (Array.replicate 32 (.int .u8 0)) (by kernel_rfl) 32 (u8v fun _ => 0) (by rfl) (zero_at 32 (.int .u8 0)) ?_; intro b10 w7 hb10 hc10 hs; have HS7 := Lib.hid hs; clear hs)
      | (refine wpList_storeH rfl 23 (.tmp 10) (.tmp 25) rfl HS7.out 0 rfl (u8v H) rfl rfl (by kernel_rfl) (fun _ _ => rfl) ?_; intro w8 hs; have HS8 := Lib.hid hs; clear hs)
      | (go_at_call 65; refine (read_ref (some ⟨b10, 0, none⟩) 32 H _ (Rd.of_row (HS8.out.row 0 rfl) (show 8 ≤ 32 by omega) (HS8.out.lt 0 rfl)) HHl.out).mono ?_; rintro e wh ⟨rfl, hw⟩; rw [hw]; clear hw wh)
      | (refine wpList_as rfl 33 rfl (.int .u64 (v : Int)) ?_ ?_; (· exact ex_bin rfl rfl rfl rfl (fun w => remK (rdN H 8) n v (by omega) HPv.out HR.out w) _))
      | (refine wpList_as rfl 35 rfl (.int .u64 ((v + n : Nat) : Int)) ?_ ?_; (· exact ex_bin rfl rfl rfl rfl (fun w => addU v n w (by omega)) _))
      | (refine wpList_as rfl 37 rfl (.int .u64 ((v + n - i : Nat) : Int)) ?_ ?_; (· exact ex_bin rfl rfl rfl rfl (fun w => subU (v + n) i (by omega) w (by omega)) _))
      | (refine wpList_as rfl 39 rfl (.int .u64 (p : Int)) ?_ ?_; (· exact ex_bin rfl rfl rfl rfl (fun w => remK (v + n - i) n p (by omega) HF.out (by omega) w) _))
      | (refine wpList_as rfl 46 rfl (.int .u64 (q : Int)) ?_ ?_; (· exact ex_bin rfl rfl rfl rfl (fun w => quo256 _ q H1.out (by omega) w) _))
      | (go_at_call 48; refine (bytes_ref q _).mono ?_; rintro e w9 ⟨rfl, hb⟩; have HS9 := Lib.hid (HS8.out.below hb); clear hb)
      | (refine wpList_allocL rfl 69 15 rfl rfl HS9.out (Array.replicate 8 (.int .u8 0)) (by kernel_rfl) 8 (u8v fun _ => 0) (by rfl) (zero_at 8 (.int .u8 0)) ?_; intro b15 wa hb15 hc15 hs; have HSa := Lib.hid hs; clear hs)
      | (refine wpList_storeH rfl 69 (.tmp 15) (.tmp 47) rfl HSa.out 0 rfl (u8v (leB q)) rfl rfl (by kernel_rfl) (fun _ _ => rfl) ?_; intro wb hs; have HSb := Lib.hid hs; clear hs))
    obtain ⟨wr, hwr⟩ : ∃ wr, wr = wb := ⟨_, rfl⟩
    have HAr := Lib.hid (show Rd wr wr.heap.size A23 33 (u8v (preN s r)) by rw [hwr]; have h := (HO6.out.all (HSb.out.out (by simp; omega))).rd; rwa [Nat.mul_one] at h)
    have R15 := Lib.hid (show wr.rowIs b15 69 8 (u8v (leB q)) by rw [hwr]; exact HSb.out.row 0 rfl)
    have HWr := Lib.hid (show Below w.heap.size w wr by rw [hwr]; exact (HS6.out.out (by simp; omega)).trans ((HSb.out.out (by simp; omega)).mono HS6.out.size))
    have HPw := Lib.hid (HP.out.below HWr.out)
    rw [← hwr]
    clear hwr HSb HSa HS9 HS8 HS7 HN6 HO6 HS6 HS5 HO5 HB4 HR4 HS3 HO3 HO2 HS2 HS1 HS0 HP
    refine wp_region_own (l := [_, _, _, _, _, _, _]) (tl := [_]) (B := wr.heap.size) (w0 := wr) [OF.own0 wr.heap.size 5, OF.is (.slice (A23) (33) (c23)), OF.own wr.heap.size 5 33 (u8v (preN s r)), OF.is (.slice (some ⟨b15, 0, none⟩) (4) (8)), OF.own wr.heap.size 5 37 (u8v (catN 33 (preN s r) (leB q))), OF.is (rootV B), OF.new wr.heap.size 23 32 (u8v fun _ => 0)] [none, none, some 48, none, some 50, none, none] [true, false, true, false, false, false, false] (by kernel_rfl) (by kernel_rfl) rfl (Nat.le_refl _) (Below.refl _ _) ⟨?_, ?_, ?_, ?_, ?_, ?_, ?_, trivial⟩ ?_
    · exact opObO_bs0 rfl rfl run_bs0_u8 _ (Nat.le_refl _)
    · exact opObO_is ((opOb_move _ rfl (.inl rfl) rfl))
    · exact opObO_app0 (s := 48) wr.heap.size u8_info Tryd.underlying35 rfl rfl rfl (by rfl) (OpK.tmp rfl) (fun w' hb => HAr.out.below hb) (fun _ _ => rfl) (by omega) (Nat.le_refl _)
    · exact opObO_is (opOb_slc rfl rfl (OpK.tmp rfl) (OpKo.no) (OpKo.const) (fun w => cut_arr Tryd.underlying69 1 (by kernel_rfl) none (some _) (0) (4) (.inl ⟨rfl, rfl⟩) (.inr rfl) (by omega) (by omega) (by omega) (by omega) (by omega) (by omega)))
    · exact opObO_app (s := 50) wr.heap.size u8_info Tryd.underlying35 rfl rfl rfl (by rfl) (Nat.le_refl _) (OpK.tmp rfl) (fun w' hb => Rd.of_row (row_below (B := wr.heap.size) R15.out hb R15.out.lt) (show 4 ≤ 8 by omega) (Nat.lt_succ_self _)) (fun _ _ => rfl) 37 (u8v (catN 33 (preN s r) (leB q))) rfl (cat_Fn 33 (preN s r) (leB q) 37) (by omega) (Nat.le_refl _)
    · exact opObO_fn ent_refSum 52 wr.heap.size 5 37 (u8v (catN 33 (preN s r) (leB q))) (fun A c => #[.slice A 37 c]) rfl rfl (by rfl) (by simp) (fun a w A c hf e1 => by simp [e1]) (fun w' A c hb ho => (refSum_any 37 c A (catN 33 (preN s r) (leB q)) w' ho.rd HCl.out (by omega) (HPw.out.below hb)).mono fun e w'' ⟨he, hb2⟩ => ⟨by rw [he, HBe.out], hb2⟩)
    · exact opObO_new wr.heap.size rfl rfl (Array.replicate 32 (.int .u8 0)) (by kernel_rfl) 32 (u8v fun _ => 0) (by rfl) (zero_at 32 (.int .u8 0)) (Nat.le_refl _)
    · intro w' hb
      simp only [finO, OF.is, OF.new, OF.own, forall_eq]
      simp only [Act.put, List.setIfInBounds_toArray, List.set_cons_succ, List.set_cons_zero]
      rintro _ _ _ ⟨A52, c52, rfl, ho52⟩ _ ⟨b16, rfl, hb16, hr16⟩
      simp only [seqWp]
      refine wp_storeL 23 (.tmp 16) (.tmp 53) rfl (HS.own hr16) 0 rfl (u8v B) rfl rfl (by kernel_rfl) (fun _ _ => rfl) ?_
      intro wy hs
      have HY := Lib.hid (hs.row 0 rfl)
      have HW := Lib.hid ((HWr.out.trans (hb.mono HWr.out.size)).trans (hs.old (B := w.heap.size) (Nat.le_trans HWr.out.size hb.size) (by simp; have := HWr.out.size; omega)))
      clear hs hb hr16 ho52 HAr HPw R15
      rcases hb2 with he2 | he2
      · subst he2
        go_wp2_with (first
          | (refine wpList_as rfl 55 rfl (.int .u64 (m : Int)) ?_ ?_; (· exact ex_bin rfl rfl rfl rfl (fun w => rem256 p m H2.out (by omega) w) _))
          | (refine wpList_as rfl 56 rfl (.int .u64 (k : Int)) ?_ ?_; (· exact ex_bin rfl rfl rfl rfl (fun w => quo8 m k H3.out (by omega) w) _))
          | (refine wpList_as rfl 57 rfl (.pointer (some ⟨b16, 0 + k, none⟩)) ?_ ?_; (· exact ex_idx rfl rfl rfl (fun w => (run_idx32 w ⟨b16, 0, none⟩ k hk32).trans (by rw [add_litO])) _))
          | (refine wpList_as rfl 58 rfl (.int .u8 ((B k : Nat) : Int)) ?_ ?_; (· exact ex_ld1 .u8 rfl rfl Tryd.underlying5 (by rw [Nat.zero_add]; exact HY.out.cell hk32)))
          | (refine wpList_as rfl 60 rfl (.int .u64 (y : Int)) ?_ ?_; (· exact ex_bin rfl rfl rfl rfl (fun w => rem8 p y H4.out (by omega) w) _))
          | (refine wpList_as rfl 61 rfl (.int .u8 (z : Int)) ?_ ?_; (· rw [← H5.out]; exact ex_bin rfl rfl rfl rfl (fun w => shrB (B k) y hy8 w) _))
          | (refine wpList_as rfl 62 rfl (.int .u8 0) ?_ ?_; (· exact ex_bin rfl rfl rfl rfl (fun w => and1B z 0 hz256 H6.out w) _)))
        go_ret
        exact ⟨by rw [← HE.out]; rfl, HW.out⟩
      · subst he2
        go_wp2_with (first
          | (refine wpList_as rfl 55 rfl (.int .u64 (m : Int)) ?_ ?_; (· exact ex_bin rfl rfl rfl rfl (fun w => rem256 p m H2.out (by omega) w) _))
          | (refine wpList_as rfl 56 rfl (.int .u64 (k : Int)) ?_ ?_; (· exact ex_bin rfl rfl rfl rfl (fun w => quo8 m k H3.out (by omega) w) _))
          | (refine wpList_as rfl 57 rfl (.pointer (some ⟨b16, 0 + k, none⟩)) ?_ ?_; (· exact ex_idx rfl rfl rfl (fun w => (run_idx32 w ⟨b16, 0, none⟩ k hk32).trans (by rw [add_litO])) _))
          | (refine wpList_as rfl 58 rfl (.int .u8 ((B k : Nat) : Int)) ?_ ?_; (· exact ex_ld1 .u8 rfl rfl Tryd.underlying5 (by rw [Nat.zero_add]; exact HY.out.cell hk32)))
          | (refine wpList_as rfl 60 rfl (.int .u64 (y : Int)) ?_ ?_; (· exact ex_bin rfl rfl rfl rfl (fun w => rem8 p y H4.out (by omega) w) _))
          | (refine wpList_as rfl 61 rfl (.int .u8 (z : Int)) ?_ ?_; (· rw [← H5.out]; exact ex_bin rfl rfl rfl rfl (fun w => shrB (B k) y hy8 w) _))
          | (refine wpList_as rfl 62 rfl (.int .u8 1) ?_ ?_; (· exact ex_bin rfl rfl rfl rfl (fun w => and1B z 1 hz256 H6.out w) _)))
        go_ret
        exact ⟨by rw [← HE.out]; rfl, HW.out⟩
  · subst he
    have t1 : decide ((p : Int) < (f : Int)) = false := decide_eq_false (by omega)
    go_enter Tryd.func55, Tryd.ntmps55
    go_upto_region 9 with (first
      | (refine wpList_boxL rfl 23 _ 7 rfl rfl HS0.out 32 (u8v s) rfl ?_; intro b7 w1 hb7 hc7 hs; have HS1 := Lib.hid hs; have hb71 : b7 < w1.heap.size := hs.lt 0 rfl; clear hs)
      | (refine wpList_bs0L rfl 1 rfl run_bs0_U HS1.out ?_; intro b17 w2 hb17 hs ho; have HS2 := Lib.hid hs; have HO2 := Lib.hid (ho.mono hb71); clear hs ho)
      | (at_builtin; refine wpList_app0L rfl (.tmp 17) (.tmp 18) 35 (b7 + 1) (z := .int .u8 0) (k := 1) (bytes := 1) (by kernel_rfl) Tryd.underlying35 (by rfl) (by omega) rfl rfl HO2.out rfl (Rd.of_row (HS2.out.row 0 rfl) (show 32 * 1 ≤ 32 by omega) (HS2.out.lt 0 rfl)) (fun _ _ => rfl) ⟨by omega, by omega⟩ (by have := HO2.out.base_le _ rfl; omega) HS2.out ?_; intro A19 c19 w3 ho hs; have HO3 := Lib.hid ho; have HS3 := Lib.hid hs; have h13 : b7 + 1 ≤ w3.heap.size := HS3.out.lt 0 rfl; clear ho hs)
      | (refine wpList_as rfl 21 rfl (.int .u8 (r : Int)) ?_ ?_; (· exact ex_cnv rfl rfl (fun w => cvIB r hr w) _))
      | (refine wpList_bs1s rfl (.tmp 21) (.int .u8 (r : Int)) rfl rfl (fun w => run_bs1_B _ w) (HS.nil w3) ?_; intro b22 w4 hb22 hc22 hbl hs; have HR4 := Lib.hid (hs.row 0 rfl); have HB4 := Lib.hid hbl; clear hs hbl)
      | (at_builtin; refine wpList_appZ _ (.tmp 19) (.tmp 22) 35 (b7 + 1) (e := 5) (z := .int .u8 0) (k := 1) (bytes := 1) (by kernel_rfl) Tryd.underlying35 (by rfl) (by omega) rfl rfl 33 (u8v (preN s r)) rfl rfl (HO3.out.all HB4.out) (Rd.of_row (n := 1 * 1) HR4.out (Nat.le_refl _) HR4.out.lt) (fun _ _ => rfl) rfl cat_pre ⟨by omega, by omega⟩ (Nat.le_trans h13 HB4.out.size) ?_; intro A23 c23 w5 ho hg _; have HO5 := Lib.hid ho; have HS5 := Lib.hid ((HS3.out.below HB4.out).appO hg (B := b7 + 1) (fun ad e => (HO3.out.base_le ad e).1) (by simp; omega)); clear ho hg)
      | (go_at_call 59; refine (refSum_any 33 c23 A23 (preN s r) _ (by have h := HO5.out.rd; rwa [Nat.mul_one] at h) HPl.out (by omega) (HP.out.below (HS5.out.out (by simp; omega)))).mono ?_; rintro e w6 ⟨rfl, hb⟩; rw [HHe.out]; have HS6 := Lib.hid (HS5.out.below hb); have HO6 := Lib.hid (HO5.out.all hb); have HN6 := Lib.hid (HS.nil w6); clear hb)
      | (refine wpList_allocL rfl 23 10 rfl rfl HN6.out (Array.replicate 32 (.int .u8 0)) (by kernel_rfl) 32 (u8v fun _ => 0) (by rfl) (zero_at 32 (.int .u8 0)) ?_; intro b10 w7 hb10 hc10 hs; have HS7 := Lib.hid hs; clear hs)
      | (refine wpList_storeH rfl 23 (.tmp 10) (.tmp 25) rfl HS7.out 0 rfl (u8v H) rfl rfl (by kernel_rfl) (fun _ _ => rfl) ?_; intro w8 hs; have HS8 := Lib.hid hs; clear hs)
      | (go_at_call 65; refine (read_ref (some ⟨b10, 0, none⟩) 32 H _ (Rd.of_row (HS8.out.row 0 rfl) (show 8 ≤ 32 by omega) (HS8.out.lt 0 rfl)) HHl.out).mono ?_; rintro e wh ⟨rfl, hw⟩; rw [hw]; clear hw wh)
      | (refine wpList_as rfl 33 rfl (.int .u64 (v : Int)) ?_ ?_; (· exact ex_bin rfl rfl rfl rfl (fun w => remK (rdN H 8) n v (by omega) HPv.out HR.out w) _))
      | (refine wpList_as rfl 35 rfl (.int .u64 ((v + n : Nat) : Int)) ?_ ?_; (· exact ex_bin rfl rfl rfl rfl (fun w => addU v n w (by omega)) _))
      | (refine wpList_as rfl 37 rfl (.int .u64 ((v + n - p : Nat) : Int)) ?_ ?_; (· exact ex_bin rfl rfl rfl rfl (fun w => subU (v + n) p (by omega) w (by omega)) _))
      | (refine wpList_as rfl 39 rfl (.int .u64 (f : Int)) ?_ ?_; (· exact ex_bin rfl rfl rfl rfl (fun w => remK (v + n - p) n f (by omega) HF.out (by omega) w) _))
      | (refine wpList_as rfl 46 rfl (.int .u64 (q : Int)) ?_ ?_; (· exact ex_bin rfl rfl rfl rfl (fun w => quo256 _ q H1.out (by omega) w) _))
      | (go_at_call 48; refine (bytes_ref q _).mono ?_; rintro e w9 ⟨rfl, hb⟩; have HS9 := Lib.hid (HS8.out.below hb); clear hb)
      | (refine wpList_allocL rfl 69 15 rfl rfl HS9.out (Array.replicate 8 (.int .u8 0)) (by kernel_rfl) 8 (u8v fun _ => 0) (by rfl) (zero_at 8 (.int .u8 0)) ?_; intro b15 wa hb15 hc15 hs; have HSa := Lib.hid hs; clear hs)
      | (refine wpList_storeH rfl 69 (.tmp 15) (.tmp 47) rfl HSa.out 0 rfl (u8v (leB q)) rfl rfl (by kernel_rfl) (fun _ _ => rfl) ?_; intro wb hs; have HSb := Lib.hid hs; clear hs))
    obtain ⟨wr, hwr⟩ : ∃ wr, wr = wb := ⟨_, rfl⟩
    have HAr := Lib.hid (show Rd wr wr.heap.size A23 33 (u8v (preN s r)) by rw [hwr]; have h := (HO6.out.all (HSb.out.out (by simp; omega))).rd; rwa [Nat.mul_one] at h)
    have R15 := Lib.hid (show wr.rowIs b15 69 8 (u8v (leB q)) by rw [hwr]; exact HSb.out.row 0 rfl)
    have HWr := Lib.hid (show Below w.heap.size w wr by rw [hwr]; exact (HS6.out.out (by simp; omega)).trans ((HSb.out.out (by simp; omega)).mono HS6.out.size))
    have HPw := Lib.hid (HP.out.below HWr.out)
    rw [← hwr]
    clear hwr HSb HSa HS9 HS8 HS7 HN6 HO6 HS6 HS5 HO5 HB4 HR4 HS3 HO3 HO2 HS2 HS1 HS0 HP
    refine wp_region_own (l := [_, _, _, _, _, _, _]) (tl := [_]) (B := wr.heap.size) (w0 := wr) [OF.own0 wr.heap.size 5, OF.is (.slice (A23) (33) (c23)), OF.own wr.heap.size 5 33 (u8v (preN s r)), OF.is (.slice (some ⟨b15, 0, none⟩) (4) (8)), OF.own wr.heap.size 5 37 (u8v (catN 33 (preN s r) (leB q))), OF.is (rootV B), OF.new wr.heap.size 23 32 (u8v fun _ => 0)] [none, none, some 48, none, some 50, none, none] [true, false, true, false, false, false, false] (by kernel_rfl) (by kernel_rfl) rfl (Nat.le_refl _) (Below.refl _ _) ⟨?_, ?_, ?_, ?_, ?_, ?_, ?_, trivial⟩ ?_
    · exact opObO_bs0 rfl rfl run_bs0_u8 _ (Nat.le_refl _)
    · exact opObO_is ((opOb_move _ rfl (.inl rfl) rfl))
    · exact opObO_app0 (s := 48) wr.heap.size u8_info Tryd.underlying35 rfl rfl rfl (by rfl) (OpK.tmp rfl) (fun w' hb => HAr.out.below hb) (fun _ _ => rfl) (by omega) (Nat.le_refl _)
    · exact opObO_is (opOb_slc rfl rfl (OpK.tmp rfl) (OpKo.no) (OpKo.const) (fun w => cut_arr Tryd.underlying69 1 (by kernel_rfl) none (some _) (0) (4) (.inl ⟨rfl, rfl⟩) (.inr rfl) (by omega) (by omega) (by omega) (by omega) (by omega) (by omega)))
    · exact opObO_app (s := 50) wr.heap.size u8_info Tryd.underlying35 rfl rfl rfl (by rfl) (Nat.le_refl _) (OpK.tmp rfl) (fun w' hb => Rd.of_row (row_below (B := wr.heap.size) R15.out hb R15.out.lt) (show 4 ≤ 8 by omega) (Nat.lt_succ_self _)) (fun _ _ => rfl) 37 (u8v (catN 33 (preN s r) (leB q))) rfl (cat_Fn 33 (preN s r) (leB q) 37) (by omega) (Nat.le_refl _)
    · exact opObO_fn ent_refSum 52 wr.heap.size 5 37 (u8v (catN 33 (preN s r) (leB q))) (fun A c => #[.slice A 37 c]) rfl rfl (by rfl) (by simp) (fun a w A c hf e1 => by simp [e1]) (fun w' A c hb ho => (refSum_any 37 c A (catN 33 (preN s r) (leB q)) w' ho.rd HCl.out (by omega) (HPw.out.below hb)).mono fun e w'' ⟨he, hb2⟩ => ⟨by rw [he, HBe.out], hb2⟩)
    · exact opObO_new wr.heap.size rfl rfl (Array.replicate 32 (.int .u8 0)) (by kernel_rfl) 32 (u8v fun _ => 0) (by rfl) (zero_at 32 (.int .u8 0)) (Nat.le_refl _)
    · intro w' hb
      simp only [finO, OF.is, OF.new, OF.own, forall_eq]
      simp only [Act.put, List.setIfInBounds_toArray, List.set_cons_succ, List.set_cons_zero]
      rintro _ _ _ ⟨A52, c52, rfl, ho52⟩ _ ⟨b16, rfl, hb16, hr16⟩
      simp only [seqWp]
      refine wp_storeL 23 (.tmp 16) (.tmp 53) rfl (HS.own hr16) 0 rfl (u8v B) rfl rfl (by kernel_rfl) (fun _ _ => rfl) ?_
      intro wy hs
      have HY := Lib.hid (hs.row 0 rfl)
      have HW := Lib.hid ((HWr.out.trans (hb.mono HWr.out.size)).trans (hs.old (B := w.heap.size) (Nat.le_trans HWr.out.size hb.size) (by simp; have := HWr.out.size; omega)))
      clear hs hb hr16 ho52 HAr HPw R15
      rcases hb2 with he2 | he2
      · subst he2
        go_wp2_with (first
          | (refine wpList_as rfl 55 rfl (.int .u64 (m : Int)) ?_ ?_; (· exact ex_bin rfl rfl rfl rfl (fun w => rem256 p m H2.out (by omega) w) _))
          | (refine wpList_as rfl 56 rfl (.int .u64 (k : Int)) ?_ ?_; (· exact ex_bin rfl rfl rfl rfl (fun w => quo8 m k H3.out (by omega) w) _))
          | (refine wpList_as rfl 57 rfl (.pointer (some ⟨b16, 0 + k, none⟩)) ?_ ?_; (· exact ex_idx rfl rfl rfl (fun w => (run_idx32 w ⟨b16, 0, none⟩ k hk32).trans (by rw [add_litO])) _))
          | (refine wpList_as rfl 58 rfl (.int .u8 ((B k : Nat) : Int)) ?_ ?_; (· exact ex_ld1 .u8 rfl rfl Tryd.underlying5 (by rw [Nat.zero_add]; exact HY.out.cell hk32)))
          | (refine wpList_as rfl 60 rfl (.int .u64 (y : Int)) ?_ ?_; (· exact ex_bin rfl rfl rfl rfl (fun w => rem8 p y H4.out (by omega) w) _))
          | (refine wpList_as rfl 61 rfl (.int .u8 (z : Int)) ?_ ?_; (· rw [← H5.out]; exact ex_bin rfl rfl rfl rfl (fun w => shrB (B k) y hy8 w) _))
          | (refine wpList_as rfl 62 rfl (.int .u8 0) ?_ ?_; (· exact ex_bin rfl rfl rfl rfl (fun w => and1B z 0 hz256 H6.out w) _)))
        go_ret
        exact ⟨by rw [← HE.out]; rfl, HW.out⟩
      · subst he2
        go_wp2_with (first
          | (refine wpList_as rfl 55 rfl (.int .u64 (m : Int)) ?_ ?_; (· exact ex_bin rfl rfl rfl rfl (fun w => rem256 p m H2.out (by omega) w) _))
          | (refine wpList_as rfl 56 rfl (.int .u64 (k : Int)) ?_ ?_; (· exact ex_bin rfl rfl rfl rfl (fun w => quo8 m k H3.out (by omega) w) _))
          | (refine wpList_as rfl 57 rfl (.pointer (some ⟨b16, 0 + k, none⟩)) ?_ ?_; (· exact ex_idx rfl rfl rfl (fun w => (run_idx32 w ⟨b16, 0, none⟩ k hk32).trans (by rw [add_litO])) _))
          | (refine wpList_as rfl 58 rfl (.int .u8 ((B k : Nat) : Int)) ?_ ?_; (· exact ex_ld1 .u8 rfl rfl Tryd.underlying5 (by rw [Nat.zero_add]; exact HY.out.cell hk32)))
          | (refine wpList_as rfl 60 rfl (.int .u64 (y : Int)) ?_ ?_; (· exact ex_bin rfl rfl rfl rfl (fun w => rem8 p y H4.out (by omega) w) _))
          | (refine wpList_as rfl 61 rfl (.int .u8 (z : Int)) ?_ ?_; (· rw [← H5.out]; exact ex_bin rfl rfl rfl rfl (fun w => shrB (B k) y hy8 w) _))
          | (refine wpList_as rfl 62 rfl (.int .u8 1) ?_ ?_; (· exact ex_bin rfl rfl rfl rfl (fun w => and1B z 1 hz256 H6.out w) _)))
        go_ret
        exact ⟨by rw [← HE.out]; rfl, HW.out⟩
end Go.Proofs.YtjmbgdldnnmipaaDoor
/- Place and Back, by the reference. -/
namespace Go.Proofs.YtjmbgdldnnmipaaDoor
set_option maxRecDepth 40000
open Go.RowKit
set_option maxHeartbeats 4000000 in
theorem placeRef_no (s : Nat → Nat) (n i : Nat) (w : World) (h : 4294967296 < n ∨ n ≤ i) :
    Calls Tryd.prog 34 #[.int .u64 (i : Int), .int .u64 (n : Int), rootV s] w fun e w' => e = noPlace ∧ Below w.heap.size w w' := by
  have HS0 := Lib.hid (HS.nil w)
  by_cases h0 : n = 0
  · have t0 : ((n : Int) == 0) = true := by rw [beq_iff_eq]; omega
    go_enter Tryd.func34, Tryd.ntmps34
    go_wp2_with (refine wpList_boxL rfl 23 _ 5 rfl rfl HS0.out 32 (u8v s) rfl ?_; intro b5 w5 hb5 hc5 hs; have HS5 := Lib.hid hs; clear hs)
    go_ret2
    exact ⟨rfl, HS5.out.out (by simp; omega)⟩
  · have t0 : ((n : Int) == 0) = false := by rw [beq_eq_false_iff_ne]; omega
    by_cases h1 : 4294967296 < n
    · have t1 : decide ((4294967296 : Int) < (n : Int)) = true := decide_eq_true (by omega)
      go_enter Tryd.func34, Tryd.ntmps34
      go_wp2_with (refine wpList_boxL rfl 23 _ 5 rfl rfl HS0.out 32 (u8v s) rfl ?_; intro b5 w5 hb5 hc5 hs; have HS5 := Lib.hid hs; clear hs)
      go_ret2
      exact ⟨rfl, HS5.out.out (by simp; omega)⟩
    · have t1 : decide ((4294967296 : Int) < (n : Int)) = false := decide_eq_false (by omega)
      have t2 : decide ((n : Int) ≤ (i : Int)) = true := decide_eq_true (by omega)
      go_enter Tryd.func34, Tryd.ntmps34
      go_wp2_with (refine wpList_boxL rfl 23 _ 5 rfl rfl HS0.out 32 (u8v s) rfl ?_; intro b5 w5 hb5 hc5 hs; have HS5 := Lib.hid hs; clear hs)
      go_ret2
      exact ⟨rfl, HS5.out.out (by simp; omega)⟩
set_option maxHeartbeats 4000000 in
theorem backRef_no (s : Nat → Nat) (n i : Nat) (w : World) (h : 4294967296 < n ∨ n ≤ i) :
    Calls Tryd.prog 36 #[.int .u64 (i : Int), .int .u64 (n : Int), rootV s] w fun e w' => e = noPlace ∧ Below w.heap.size w w' := by
  have HS0 := Lib.hid (HS.nil w)
  by_cases h0 : n = 0
  · have t0 : ((n : Int) == 0) = true := by rw [beq_iff_eq]; omega
    go_enter Tryd.func36, Tryd.ntmps36
    go_wp2_with (refine wpList_boxL rfl 23 _ 5 rfl rfl HS0.out 32 (u8v s) rfl ?_; intro b5 w5 hb5 hc5 hs; have HS5 := Lib.hid hs; clear hs)
    go_ret2
    exact ⟨rfl, HS5.out.out (by simp; omega)⟩
  · have t0 : ((n : Int) == 0) = false := by rw [beq_eq_false_iff_ne]; omega
    by_cases h1 : 4294967296 < n
    · have t1 : decide ((4294967296 : Int) < (n : Int)) = true := decide_eq_true (by omega)
      go_enter Tryd.func36, Tryd.ntmps36
      go_wp2_with (refine wpList_boxL rfl 23 _ 5 rfl rfl HS0.out 32 (u8v s) rfl ?_; intro b5 w5 hb5 hc5 hs; have HS5 := Lib.hid hs; clear hs)
      go_ret2
      exact ⟨rfl, HS5.out.out (by simp; omega)⟩
    · have t1 : decide ((4294967296 : Int) < (n : Int)) = false := decide_eq_false (by omega)
      have t2 : decide ((n : Int) ≤ (i : Int)) = true := decide_eq_true (by omega)
      go_enter Tryd.func36, Tryd.ntmps36
      go_wp2_with (refine wpList_boxL rfl 23 _ 5 rfl rfl HS0.out 32 (u8v s) rfl ?_; intro b5 w5 hb5 hc5 hs; have HS5 := Lib.hid hs; clear hs)
      go_ret2
      exact ⟨rfl, HS5.out.out (by simp; omega)⟩
set_option maxHeartbeats 4000000 in
theorem placeRef_ok (s : Nat → Nat) (hs : ∀ i, s i < 256) (n i : Nat) (w : World) (hn : n ≤ 4294967296) (hi : i < n) (hp : RefPkg w) :
    Calls Tryd.prog 34 #[.int .u64 (i : Int), .int .u64 (n : Int), rootV s] w fun e w' => e = .returned (.tuple #[.int .u64 ((placeN s n i : Nat) : Int), .int .i64 0]) ∧ Below w.heap.size w w' := by
  have HS0 := Lib.hid (HS.nil w)
  have HP := Lib.hid hp
  have HSl := Lib.hid hs
  have HWk := Lib.hid (fun k => walk_lt (s := s) (ρ := fwd) hi k)
  have t0 : ((n : Int) == 0) = false := by rw [beq_eq_false_iff_ne]; omega
  have t1 : decide ((4294967296 : Int) < (n : Int)) = false := decide_eq_false (by omega)
  have t2 : decide ((n : Int) ≤ (i : Int)) = false := decide_eq_false (by omega)
  have t3 : decide (n ≤ i) = false := decide_eq_false (by omega)
  clear hp hs
  go_enter Tryd.func34, Tryd.ntmps34
  go_wp2_with (refine wpList_boxL rfl 23 _ 5 rfl rfl HS0.out 32 (u8v s) rfl ?_; intro b5 w5 hb5 hc5 hs; have HS5 := Lib.hid hs; clear hs)
  go_loopw [0, 8] (fun o0 o8 wr => ∃ k : Nat, o0 = .int .u64 ((walkN s n fwd k i : Nat) : Int) ∧ o8 = .int .i64 (k : Int) ∧ k ≤ 6 ∧ HS w wr [⟨b5, 23, 32, u8v s⟩]) (fun _ ix _ => 6 - (intOf ix).toNat)
  case atStart => exact ⟨0, rfl, rfl, by omega, HS5.out⟩
  case round =>
    clear HS5
    obtain ⟨k, rfl, rfl, hk, hs⟩ := hrel
    have HSr := Lib.hid hs
    clear hs
    by_cases hk6 : k < 6
    · obtain ⟨x, hx⟩ : ∃ x, x = walkN s n fwd k i := ⟨_, rfl⟩
      have HE := Lib.hid (show stepN s n k x = walkN s n fwd (k + 1) i by rw [hx]; rfl)
      have hxn : x < n := by rw [hx]; exact HWk.out k
      rw [← hx]
      clear hx
      go_wp2_with (first
        | (refine wpList_load_rd rfl 23 _ rfl 32 _ Tryd.underlying23 rfl (by kernel_rfl) ⟨b5, 0, none⟩ rfl (u8v s) (fun i hi => by rw [add_lit0]; exact HSr.out.cell 0 i rfl hi) ?_)
        | (go_at_call 55; refine (round_ref s HSl.out n x k _ hn hxn (by omega) (HP.out.below (HSr.out.out (by simp; omega)))).mono ?_; rintro e w6 ⟨rfl, hb⟩; rw [HE.out]; have HS6 := Lib.hid (HSr.out.below hb); clear hb))
      go_roundw
      case rel => exact ⟨k + 1, rfl, by go_num, by omega, HS6.out⟩
      case measure => simp [intOf]; omega
    · obtain rfl : k = 6 := by omega
      go_wp2_with fail
      go_ret2
      exact ⟨rfl, HSr.out.out (by simp; omega)⟩
set_option maxHeartbeats 4000000 in
theorem backRef_ok (s : Nat → Nat) (hs : ∀ i, s i < 256) (n i : Nat) (w : World) (hn : n ≤ 4294967296) (hi : i < n) (hp : RefPkg w) :
    Calls Tryd.prog 36 #[.int .u64 (i : Int), .int .u64 (n : Int), rootV s] w fun e w' => e = .returned (.tuple #[.int .u64 ((backN s n i : Nat) : Int), .int .i64 0]) ∧ Below w.heap.size w w' := by
  have HS0 := Lib.hid (HS.nil w)
  have HP := Lib.hid hp
  have HSl := Lib.hid hs
  have HWk := Lib.hid (fun k => walk_lt (s := s) (ρ := bwd) hi k)
  have t0 : ((n : Int) == 0) = false := by rw [beq_eq_false_iff_ne]; omega
  have t1 : decide ((4294967296 : Int) < (n : Int)) = false := decide_eq_false (by omega)
  have t2 : decide ((n : Int) ≤ (i : Int)) = false := decide_eq_false (by omega)
  have t3 : decide (n ≤ i) = false := decide_eq_false (by omega)
  clear hp hs
  go_enter Tryd.func36, Tryd.ntmps36
  go_wp2_with (refine wpList_boxL rfl 23 _ 5 rfl rfl HS0.out 32 (u8v s) rfl ?_; intro b5 w5 hb5 hc5 hs; have HS5 := Lib.hid hs; clear hs)
  go_loopw [0, 8] (fun o0 o8 wr => ∃ k : Nat, o0 = .int .u64 ((walkN s n bwd k i : Nat) : Int) ∧ o8 = .int .i64 (5 - (k : Int)) ∧ k ≤ 6 ∧ HS w wr [⟨b5, 23, 32, u8v s⟩]) (fun _ ix _ => (intOf ix + 1).toNat)
  case atStart => exact ⟨0, rfl, rfl, by omega, HS5.out⟩
  case round =>
    clear HS5
    obtain ⟨k, rfl, rfl, hk, hs⟩ := hrel
    have HSr := Lib.hid hs
    clear hs
    by_cases hk6 : k < 6
    · obtain ⟨x, hx⟩ : ∃ x, x = walkN s n bwd k i := ⟨_, rfl⟩
      obtain ⟨j, hj⟩ : ∃ j, j = 5 - k := ⟨_, rfl⟩
      have HJ := Lib.hid (show (5 - (k : Int)) = (j : Int) by omega)
      have HE := Lib.hid (show stepN s n j x = walkN s n bwd (k + 1) i by rw [hx, hj]; rfl)
      have hxn : x < n := by rw [hx]; exact HWk.out k
      have hj6 : j < 6 := by omega
      rw [← hx, HJ.out]
      clear hx hj
      go_wp2_with (first
        | (refine wpList_load_rd rfl 23 _ rfl 32 _ Tryd.underlying23 rfl (by kernel_rfl) ⟨b5, 0, none⟩ rfl (u8v s) (fun i hi => by rw [add_lit0]; exact HSr.out.cell 0 i rfl hi) ?_)
        | (go_at_call 55; refine (round_ref s HSl.out n x j _ hn hxn (by omega) (HP.out.below (HSr.out.out (by simp; omega)))).mono ?_; rintro e w6 ⟨rfl, hb⟩; rw [HE.out]; have HS6 := Lib.hid (HSr.out.below hb); clear hb))
      go_roundw
      case rel => exact ⟨k + 1, rfl, congrArg (Value.int .i64) (by have := HJ.out; omega), by omega, HS6.out⟩
      case measure => simp [intOf] <;> omega
    · obtain rfl : k = 6 := by omega
      go_wp2_with fail
      go_ret2
      exact ⟨rfl, HSr.out.out (by simp; omega)⟩
end Go.Proofs.YtjmbgdldnnmipaaDoor
/- List and Same, by the reference. -/
namespace Go.Proofs.YtjmbgdldnnmipaaDoor
set_option maxRecDepth 40000
open Go.RowKit
namespace ShufRefList
theorem cvIU (m : Nat) (hm : m < 9223372036854775808) (w : World) : (convert 3 25 (.int .i64 (m:Int))).run Tryd.prog w = .ok (.int .u64 (m:Int)) w := by
  simp [go_sem, IntKind.wrap, IntKind.bits, IntKind.signed]; omega
theorem run_idxZV {P : Program} (w : World) {t e : TypeId} {z n c k : Nat} (hu : P.underlying t = some (.slice e)) (hz : (P.info? e).map (·.size) = some z) (ad : Addr) (hk : k < n) : (Instr.indexAt t (.slice (some ad) n c) (.int .u64 (k : Int))).run P w = .ok (.pointer (some (ad.add (k * z)))) w := by
  have h1 : ¬ n ≤ k := by omega
  simp [Instr.indexAt, run_underlying hu, sizeOf_run hz, go_sem, h1]
theorem run_bs1_64 (v : Int) (w : World) : (Instr.buildSlice 46 1 #[(0, .int .u64 v)]).run Tryd.prog w = .ok (.slice (some ⟨w.heap.size, 0, none⟩) 1 1) (w.alloc (.cells #[.int .u64 v] 25)) := by simp [go_sem]
theorem cat_one {x : Nat → Nat} {k : Nat} : ∀ q, q < (k + 1) * 1 → catF (k * 1) (u64v x) (fun _ => .int .u64 ((x k : Nat) : Int)) q = u64v x q := fun q hq => by
  unfold catF
  by_cases h : q < k * 1
  · rw [if_pos h]
  · rw [if_neg h, show q = k by omega]
end ShufRefList
open ShufRefList in
set_option maxHeartbeats 4000000 in
theorem listRef_long (n c : Nat) (A : Option Addr) (s : Nat → Nat) (w : World) (hn : 65536 < n) :
    Calls Tryd.prog 31 #[.slice A n c, rootV s] w fun e w' => e = .returned (.tuple #[.slice none 0 0, .int .i64 1]) ∧ Below w.heap.size w w' := by
  have HS0 := Lib.hid (HS.nil w)
  have t1 : decide ((65536 : Int) < (n : Int)) = true := decide_eq_true (by omega)
  go_enter Tryd.func31, Tryd.ntmps31
  go_wp2_with (refine wpList_boxL rfl 23 _ 3 rfl rfl HS0.out 32 (u8v s) rfl ?_; intro b3 w3 hb3 hc3 hs; have HS3 := Lib.hid hs; clear hs)
  go_ret2
  exact ⟨rfl, HS3.out.out (by simp; omega)⟩
open ShufRefList in
set_option maxHeartbeats 8000000 in
theorem listRef_ok (n c : Nat) (A : Option Addr) (x s : Nat → Nat) (hs : ∀ i, s i < 256) (w : World) (hb : Rd w w.heap.size A n (u64v x)) (hn : n ≤ 65536) (hp : RefPkg w) :
    Calls Tryd.prog 31 #[.slice A n c, rootV s] w fun e w' => ∃ A' c', e = .returned (.tuple #[.slice A' n c', .int .i64 0]) ∧ OwnZ w' w.heap.size 25 1 A' n c' (u64v fun q => x (placeN s n q)) ∧ Below w.heap.size w w' := by
  have HS0 := Lib.hid (HS.nil w)
  have HX := Lib.hid hb
  have HP := Lib.hid hp
  have HSl := Lib.hid hs
  have t1 : decide ((65536 : Int) < (n : Int)) = false := decide_eq_false (by omega)
  obtain ⟨Y, hY⟩ : ∃ Y : Nat → Nat, Y = fun q => x (placeN s n q) := ⟨_, rfl⟩
  have HYd := Lib.hid (show ∀ q, x (placeN s n q) = Y q from fun q => by rw [hY])
  rw [← hY]
  clear hb hp hs hY
  go_enter Tryd.func31, Tryd.ntmps31
  go_wp2_with (refine wpList_boxL rfl 23 _ 3 rfl rfl HS0.out 32 (u8v s) rfl ?_; intro b3 w3 hb3 hc3 hs; have HS3 := Lib.hid hs; clear hs)
  have hb3w : b3 < w3.heap.size := HS3.out.lt 0 rfl
  have h3 := HS3.out.size
  go_loopw [6, 7] (fun o6 o7 wr => ∃ (k : Nat) (A' : Option Addr) (c' : Nat), o6 = .slice A' k c' ∧ o7 = .int .i64 (k : Int) ∧ k ≤ n ∧ OwnZ wr w3.heap.size 25 1 A' k c' (u64v Y) ∧ Below w3.heap.size w3 wr) (fun _ ix _ => n - (intOf ix).toNat)
  case atStart => exact ⟨0, none, 0, rfl, rfl, by omega, OwnZ.nil _ _ _ _ _, Below.refl _ _⟩
  case round =>
    obtain ⟨k, A', c', rfl, rfl, hk, ho, hw⟩ := hrel
    have HO := Lib.hid ho
    have HW := Lib.hid hw
    have hsz := hw.size
    clear ho hw
    by_cases hkn : k < n
    · obtain ⟨ad, hA, _, _⟩ := HX.out (by omega)
      subst hA
      have HWw := Lib.hid ((HS3.out.out (by simp; omega)).trans (HW.out.mono h3))
      obtain ⟨p, hpp⟩ : ∃ p, p = placeN s n k := ⟨_, rfl⟩
      have hpn : p < n := by rw [hpp]; exact place_lt hkn
      have HPe := Lib.hid hpp.symm
      have HYk := Lib.hid (show x p = Y k by rw [hpp]; exact HYd.out k)
      clear hpp
      go_wp2_with (first
        | (refine wpList_as rfl 21 rfl (.int .u64 (k : Int)) ?_ ?_; (· exact ex_cnv rfl rfl (fun w => cvIU k (by omega) w) _))
        | (refine wpList_as rfl 24 rfl (.int .u64 (n : Int)) ?_ ?_; (· exact ex_cnv rfl rfl (fun w => cvIU n (by omega) w) _))
        | (refine wpList_load_rd rfl 23 _ rfl 32 _ Tryd.underlying23 rfl (by kernel_rfl) ⟨b3, 0, none⟩ rfl (u8v s) (fun i hi => by rw [add_lit0]; exact (row_below (HS3.out.row 0 rfl) HW.out hb3w).cell hi) ?_)
        | (go_at_call 34; refine (placeRef_ok s HSl.out n k _ (by omega) hkn (HP.out.below HWw.out)).mono ?_; rintro e w4 ⟨rfl, hb⟩; rw [HPe.out]; have HB4 := Lib.hid hb; have HO4 := Lib.hid (HO.out.all hb); have HN4 := Lib.hid (HS.nil w4); clear hb)
        | (refine wpList_as rfl 32 rfl (.pointer (some (ad.add (p * 1)))) ?_ ?_; (· exact ex_idx rfl rfl rfl (fun w => run_idxZV (z := 1) w Tryd.underlying46 (by kernel_rfl) ad hpn) _))
        | (refine wpList_as rfl 33 rfl (.int .u64 ((Y k : Nat) : Int)) ?_ ?_; (· exact ex_ld1 .u64 rfl rfl Tryd.underlying25 (by rw [Nat.mul_one]; exact ((HX.out.below (HWw.out.trans (HB4.out.mono HWw.out.size))).cells hpn).trans (congrArg (fun m : Nat => some (Value.int .u64 (m : Int))) HYk.out))))
        | (refine wpList_bs1s rfl (.tmp 33) (.int .u64 ((Y k : Nat) : Int)) rfl rfl (fun w => run_bs1_64 _ w) HN4.out ?_; intro b34 w5 hb34 hc34 hbl hs; have HR5 := Lib.hid (hs.row 0 rfl); have HB5 := Lib.hid hbl; clear hs hbl)
        | (at_builtin; refine wpList_appZ _ (.tmp 29) (.tmp 34) 46 w3.heap.size (e := 25) (z := .int .u64 0) (k := 1) (bytes := 8) (by kernel_rfl) Tryd.underlying46 (by rfl) (by omega) rfl rfl (k + 1) (u64v Y) rfl rfl (HO4.out.all HB5.out) (Rd.of_row (n := 1 * 1) HR5.out (Nat.le_refl _) HR5.out.lt) (fun _ _ => rfl) rfl cat_one ⟨by omega, by omega⟩ (Nat.le_trans hsz (Nat.le_trans HB4.out.size HB5.out.size)) ?_; intro A35 c35 w6 ho hg _; have HO6 := Lib.hid ho; have HB6 := Lib.hid (below_app (HW.out.trans ((HB4.out.trans (HB5.out.mono HB4.out.size)).mono hsz)) hg (Nat.le_trans hsz (Nat.le_trans HB4.out.size HB5.out.size)) (fun ad e => (HO4.out.base_le ad e).1)); clear ho hg))
      go_roundw
      case rel => exact ⟨k + 1, A35, c35, rfl, by go_num, by omega, HO6.out, HB6.out⟩
      case measure => simp [intOf]; omega
    · obtain rfl : n = k := by omega
      go_wp2_with fail
      go_ret2
      exact ⟨A', c', rfl, HO.out.mono h3, (HS3.out.out (by simp; omega)).trans (HW.out.mono h3)⟩
end Go.Proofs.YtjmbgdldnnmipaaDoor
/- Arguments that came in, as functions of the index. -/
namespace Go.Proofs.YtjmbgdldnnmipaaDoor
set_option maxRecDepth 40000
open Go.RowKit Go.ChangeShapes Go.WideShapes Go.ChangeAt

theorem cell_lt {w : World} {a : Addr} {v : Value} (h : w.cell? a = some v) : a.block < w.heap.size := by
  rcases Nat.lt_or_ge a.block w.heap.size with hl | hl
  · exact hl
  · exfalso
    unfold World.cell? at h
    rw [Array.getElem?_eq_none hl] at h
    simp at h

theorem rd_of {w : World} {x : Addr} {n : Nat} {f : Nat → Value} (h : ∀ i, i < n → w.cell? (x.add i) = some (f i)) : Rd w w.heap.size (some x) n f := fun hn =>
  ⟨x, rfl, by have := cell_lt (h 0 hn); rwa [block_of_add] at this, h⟩

theorem wf_u8 {n : Int} (h : (Lit.int .u8 n).wf = true) : 0 ≤ n ∧ n < 256 := by
  simp [Lit.wf, IntKind.min, IntKind.max, IntKind.signed, IntKind.bits] at h; omega
theorem wf_u64 {n : Int} (h : (Lit.int .u64 n).wf = true) : 0 ≤ n ∧ n < 18446744073709551616 := by
  simp [Lit.wf, IntKind.min, IntKind.max, IntKind.signed, IntKind.bits] at h; omega
theorem wf_i64 {n : Int} (h : (Lit.int .i64 n).wf = true) : -9223372036854775808 ≤ n ∧ n ≤ 9223372036854775807 := by
  simp [Lit.wf, IntKind.min, IntKind.max, IntKind.signed, IntKind.bits] at h; omega

/-- A slice of integers of an unsigned kind. -/
theorem rd_ints {w : World} {x : Addr} {len : Nat} {k : IntKind} {M : Nat} {zs : List Int} (hwf : ∀ n ∈ zs, 0 ≤ n ∧ n < M) (hl : len ≤ zs.length) (h : ∀ i, i < zs.length → w.cell? (x.add i) = some (.int k (zs.getD i 0))) (hM : 0 < M) :
    ∃ z : Nat → Nat, Rd w w.heap.size (some x) len (fun i => .int k ((z i : Nat) : Int)) ∧ ∀ i, z i < M := by
  have hz : ∀ i, 0 ≤ zs.getD i 0 ∧ zs.getD i 0 < M := by
    intro i
    by_cases hi : i < zs.length
    · have := hwf zs[i] (List.getElem_mem hi)
      simpa [List.getD, hi] using this
    · simp [List.getD, hi, hM]
  refine ⟨fun i => (zs.getD i 0).toNat, rd_of fun i hi => ?_, fun i => by have := hz i; show (zs.getD i 0).toNat < M; omega⟩
  rw [h i (by omega)]
  have := hz i
  simp only [Int.toNat_of_nonneg this.1]
end Go.Proofs.YtjmbgdldnnmipaaDoor
/- Arguments that are arrays; package variables that lie as they were laid. -/
namespace Go.Proofs.YtjmbgdldnnmipaaDoor
set_option maxRecDepth 40000
open Go.RowKit Go.ChangeShapes Go.WideShapes Go.ChangeAt
theorem open_arr_ints {H : Type} {enc : TypeId × Value → H} {P : Program} {W : World} {base b0 : Nat} {sp : Nat → Bool} {held : Bool} {r : Reach} {t e : TypeId} {n : Nat} {k : IntKind} {v : Value} {d : DataW H} {ps : List MemPlace}
    (hu : P.underlying t = some (.array n e)) (he : P.underlying e = some (.int k)) (hce : P.cellsOf e = 1) (hct : P.cellsOf t = n) (hval : Value.okWide P W r b0 t v) (hd : DataW.Trod enc P W base sp held t v d ps) :
    ∃ z : Nat → Int, v = .agg (arr n fun i => .int k (z i)) ∧ ∀ i, i < n → (Lit.int k (z i)).wf = true := by
  simp only [Value.okWide, hu] at hval
  obtain ⟨xs, rfl, hn, _⟩ := hval
  obtain ⟨fuel, hf⟩ := hd
  cases fuel with
  | zero => simp [DataW.trod] at hf
  | succ m =>
    rw [DataW.trod_step] at hf
    unfold DataW.trodStep at hf
    simp only [hu, Value.cells] at hf
    rw [if_pos (by simpa using hn)] at hf
    simp only [Option.map_eq_some_iff] at hf
    obtain ⟨ys, hy, e1⟩ := hf
    have hcell : ∀ i, i < n → ∃ z, xs[i]? = some (.int k z) ∧ (Lit.int k z).wf = true := by
      intro i hi
      obtain ⟨b, _, hb⟩ := Lib.mapM_at hy i i (by simp [hi])
      rw [hce] at hb
      obtain ⟨z, h1, _, h3⟩ := DataW.trod_int he hb
      refine ⟨z, ?_, h3⟩
      have hl : (List.take 1 (List.drop (i * 1) xs.toList))[0]? = some (.int k z) := by rw [h1]; rfl
      simpa using hl
    have h2 : ∀ i, ∃ z, i < n → (xs[i]? = some (.int k z) ∧ (Lit.int k z).wf = true) := fun i => by
      by_cases hi : i < n
      · obtain ⟨z, hz⟩ := hcell i hi; exact ⟨z, fun _ => hz⟩
      · exact ⟨0, fun h => absurd h hi⟩
    obtain ⟨z, hz⟩ := Classical.axiomOfChoice h2
    exact ⟨z, by rw [arr_of xs n (fun i => .int k (z i)) (by rw [hn, hct]) (fun i hi => (hz i hi).1)], fun i hi => (hz i hi).2⟩
/-- A [32]byte and its like. -/
theorem open_bytes {H : Type} {enc : TypeId × Value → H} {P : Program} {W : World} {base b0 : Nat} {sp : Nat → Bool} {held : Bool} {r : Reach} {t e : TypeId} {n : Nat} {v : Value} {d : DataW H} {ps : List MemPlace}
    (hu : P.underlying t = some (.array n e)) (he : P.underlying e = some (.int .u8)) (hce : P.cellsOf e = 1) (hct : P.cellsOf t = n) (hval : Value.okWide P W r b0 t v) (hd : DataW.Trod enc P W base sp held t v d ps) :
    ∃ x : Nat → Nat, v = .agg (arr n fun i => .int .u8 ((x i : Nat) : Int)) ∧ ∀ i, x i < 256 := by
  obtain ⟨z, rfl, hw⟩ := open_arr_ints hu he hce hct hval hd
  refine ⟨fun i => if i < n then (z i).toNat else 0, congrArg Value.agg (arr_congr fun i hi => ?_), fun i => ?_⟩
  · have := wf_u8 (hw i hi)
    simp only [if_pos hi, Int.toNat_of_nonneg this.1]
  · show (if i < n then (z i).toNat else 0) < 256
    split
    · rename_i h; have := wf_u8 (hw i h); omega
    · omega

/-- What lies behind the first on the list. -/
theorem laid_tail {P : Program} {W : World} {x : String × DataW Unit} {rest : List (String × DataW Unit)} {ps : List MemPlace} (h : DataW.LaidVars P W (x :: rest) ps) : ∃ q, DataW.LaidVars P W rest q := by
  obtain ⟨g', t', cs, fuel, p, q, _, _, _, _, h1, _⟩ := h
  exact ⟨q, h1⟩
theorem tab_of {P : Program} {W : World} {name : String} {k : IntKind} {zs : List Int} {rest : List (String × DataW Unit)} {g : Nat} {t e : TypeId} {n : Nat} {ps : List MemPlace}
    (hg : P.globalNamed name = some g) (hty : (P.globals[g]?).map (·.type) = some t) (ht : P.underlying t = some (.array n e)) (he : P.underlying e = some (.int k)) (hce : P.cellsOf e = 1) (hct : P.cellsOf t = n)
    (h : DataW.LaidVars P W ((name, Lib.tabData k zs) :: rest) ps) (i : Nat) (hi : i < zs.length) : W.cell? ⟨g, i, none⟩ = some (.int k (zs.getD i 0)) := by
  obtain ⟨g', t', cs, fuel, p, q, hg', ht', hvar, hd, _, _⟩ := h
  obtain rfl := Option.some.inj (hg.symm.trans hg')
  obtain rfl := Option.some.inj (hty.symm.trans ht')
  have hT : Lib.TabIs P W name k zs := by
    unfold Lib.TabIs
    rw [hvar, ← Lib.cells_of_tab ht he hce hct hd]
  exact hT.cell hg i hi
/-- The witness's world: the settled one, block g holding these cells. -/
noncomputable def laidInto (w : World) (g : Nat) (cs : Array Value) : World :=
  { w with heap := w.heap.modify g fun
      | .cells _ t frozen => .cells cs t frozen
      | o => o }
end Go.Proofs.YtjmbgdldnnmipaaDoor
/- The tables of sha, as they were laid. -/
namespace Go.Proofs.YtjmbgdldnnmipaaDoor
set_option maxRecDepth 40000
open Go.RowKit Go.ChangeShapes Go.WideShapes Go.ChangeAt

def zsK : List Int := kList.map fun n : Nat => (n : Int)
def zsH : List Int := hList.map fun n : Nat => (n : Int)
theorem zsK_at : ∀ i, i < 64 → zsK.getD i 0 = ((kw i).toNat : Int) := by decide +kernel
theorem zsH_at : ∀ i, i < 8 → zsH.getD i 0 = ((h0 i).toNat : Int) := by decide +kernel
theorem tab_start {W : World} {rest : List (String × DataW Unit)} {ps : List MemPlace} (h : DataW.LaidVars Tryd.prog W (("pharos/sha.start", Rows.laid_pharos_sha_start) :: rest) ps) : ∀ i, i < 8 → W.cell? ⟨0, i, none⟩ = some (wv (h0 i)) := fun i hi => by
  have h' : DataW.LaidVars Tryd.prog W (("pharos/sha.start", Lib.tabData .u32 zsH) :: rest) ps := h
  have := tab_of (P := Tryd.prog) (g := 0) (t := 64) (e := 63) (n := 8) (by kernel_rfl) (by kernel_rfl) Tryd.underlying64 Tryd.underlying63 (by kernel_rfl) (by kernel_rfl) h' i hi
  rw [this, zsH_at i hi]
theorem tab_round {W : World} {rest : List (String × DataW Unit)} {ps : List MemPlace} (h : DataW.LaidVars Tryd.prog W (("pharos/sha.round", Rows.laid_pharos_sha_round) :: rest) ps) : ∀ i, i < 64 → W.cell? ⟨1, i, none⟩ = some (wv (kw i)) := fun i hi => by
  have h' : DataW.LaidVars Tryd.prog W (("pharos/sha.round", Lib.tabData .u32 zsK) :: rest) ps := h
  have := tab_of (P := Tryd.prog) (g := 1) (t := 88) (e := 63) (n := 64) (by kernel_rfl) (by kernel_rfl) Tryd.underlying88 Tryd.underlying63 (by kernel_rfl) (by kernel_rfl) h' i hi
  rw [this, zsK_at i hi]
theorem tab_constants {W : World} {rest : List (String × DataW Unit)} {ps : List MemPlace} (h : DataW.LaidVars Tryd.prog W (("pharos/pharosref02.constants", Rows.laid_pharos_pharosref02_constants) :: rest) ps) : ∀ i, i < 64 → W.cell? ⟨2, i, none⟩ = some (wv (kw i)) := fun i hi => by
  have h' : DataW.LaidVars Tryd.prog W (("pharos/pharosref02.constants", Lib.tabData .u32 zsK) :: rest) ps := h
  have := tab_of (P := Tryd.prog) (g := 2) (t := 88) (e := 63) (n := 64) (by kernel_rfl) (by kernel_rfl) Tryd.underlying88 Tryd.underlying63 (by kernel_rfl) (by kernel_rfl) h' i hi
  rw [this, zsK_at i hi]
/-- What the witness's world holds. -/
def csK : Array Value := (zsK.map (Value.int .u32)).toArray
def csH : Array Value := (zsH.map (Value.int .u32)).toArray
end Go.Proofs.YtjmbgdldnnmipaaDoor
/- Numbers of 64 bits that wrap around, and rows of them, as the laws of this chapter use them. (Printed by a program of mine.) -/
namespace Go.Proofs.YtjmbgdldnnmipaaDoor
set_option maxRecDepth 40000
open Go.RowKit
namespace ShufLawOps
theorem mulW (a b r : Nat) (h : a * b % 18446744073709551616 = r) (w : World) : (binOp .mul 25 (.int .u64 (a : Int)) (.int .u64 (b : Int))).run Tryd.prog w = .ok (.int .u64 (r : Int)) w := by
  subst h
  simp [go_sem, IntKind.wrap, IntKind.bits, IntKind.signed]
theorem addW (a b r : Nat) (h : (a + b) % 18446744073709551616 = r) (w : World) : (binOp .add 25 (.int .u64 (a : Int)) (.int .u64 (b : Int))).run Tryd.prog w = .ok (.int .u64 (r : Int)) w := by
  subst h
  simp [go_sem, IntKind.wrap, IntKind.bits, IntKind.signed]
theorem own_cap0 {w : World} {base z n c : Nat} {e : TypeId} {A : Option Addr} {f : Nat → Value} (h : OwnZ w base e z A n c f) : A = none → c = 0 := by
  rintro rfl
  rcases h.2 with ⟨hv, _⟩ | ⟨g, cap, cur, hv, _⟩
  · injection hv with _ h1 h2
  · injection hv with h1; cases h1
theorem remI (m : Int) (_h0 : -9223372036854775808 ≤ m ∧ m ≤ 9223372036854775807) (w : World) : (binOp .rem 3 (.int .i64 m) (.int .i64 300)).run Tryd.prog w = .ok (.int .i64 (m.tmod 300)) w := by
  have h1 : -300 < m.tmod 300 := Int.lt_tmod_of_pos m (by omega)
  have h2 : m.tmod 300 < 300 := Int.tmod_lt_of_pos m (by omega)
  simp [go_sem]
  try omega
theorem remU (m c r : Nat) (hc : 0 < c) (h : m % c = r) (hm : m < 18446744073709551616) (w : World) : (binOp .rem 25 (.int .u64 (m : Int)) (.int .u64 (c : Int))).run Tryd.prog w = .ok (.int .u64 (r : Int)) w := by
  subst h
  have h2 : m % c < 18446744073709551616 := Nat.lt_of_le_of_lt (Nat.mod_le _ _) hm
  have h3 : (m : Int).tmod (c : Int) = ((m % c : Nat) : Int) := by rw [Int.tmod_eq_emod_of_nonneg (by omega)]; simp
  simp [go_sem, h3]
  try omega
section
variable {P : Program}
/-- One cell of row k is laid; the world is a letter. -/
theorem wpList_st1 {ops : Array Oper} {rest : List Oper} {o : Oper} {a : Act} {w w0 : World} {Q : Exit → Act → World → Prop} {rows : List RowSpec} (hgd : o.guard = none) (ty : TypeId) (x y : Operand) (ho : o.op = .store ty x y) (h : HS w0 w rows) (k : Nat) {b : Nat} {t : TypeId} {n : Nat} {f : Nat → Value} (hk : rows[k]? = some ⟨b, t, n, f⟩) (off : Nat) (v : Value)
    (hst : ∀ (w : World) (ad : Addr) (u : Value), w.cell? ad = some u → w.frozen? ad = false → (Instr.storeAt ty (.pointer (some ad)) v).run P w = .ok () (w.setCell ad v)) (hx : a.eval x = .pointer (some ⟨b, off, none⟩)) (hy : a.eval y = v) (hfit : off < n)
    (g : Nat → Value) (hg : ∀ j, j < n → (if j = off then v else f j) = g j)
    (hK : ∀ w', HS w0 w' (rows.set k ⟨b, t, n, g⟩) → w.grownBy w' (some b) → wpList P ops Q rest (a.put o.dst undef) w') : wpList P ops Q (o :: rest) a w :=
  wpList_plain hgd fun _ hK' => by
    have hrun := hst w ⟨b, off, none⟩ _ (h.cell k off hk hfit) (h.frozen k off hk)
    unfold Oper.wp execOp
    simp only [ho, hx, hy, Sem.run_bind, hrun, Result.andThen_ok, Sem.run_pure]
    refine hK' _ _ (hK _ ?_ (grown_setCell (World.grownBy.refl _ _) (.inl rfl) _))
    have h1 := (h.set k off hk v).congr k (g := g) (b := b) (t := t) (n := n) (f := fun j => if j = off then v else f j) (by
      obtain ⟨hk', _⟩ := List.getElem?_eq_some_iff.1 hk
      rw [List.getElem?_set]; simp [hk']) hg
    rwa [List.set_set] at h1
end
theorem stBool (v : Bool) (w : World) (ad : Addr) (u : Value) (h : w.cell? ad = some u) (hf : w.frozen? ad = false) : (Instr.storeAt 4 (.pointer (some ad)) (.bool v)).run Tryd.prog w = .ok () (w.setCell ad (.bool v)) := by
  simp [go_sem, h, hf]
theorem stU (m : Int) (w : World) (ad : Addr) (u : Value) (h : w.cell? ad = some u) (hf : w.frozen? ad = false) : (Instr.storeAt 25 (.pointer (some ad)) (.int .u64 m)).run Tryd.prog w = .ok () (w.setCell ad (.int .u64 m)) := by
  simp [go_sem, h, hf]
/-- Which places were taken to so far. -/
def seenN (s : Nat → Nat) (n j q : Nat) : Bool := (List.range j).any fun i => placeN s n i == q
theorem seen_no {s : Nat → Nat} {n j : Nat} (hj : j < n) : seenN s n j (placeN s n j) = false := by
  unfold seenN
  rw [List.any_eq_false]
  intro i hi
  have hi := List.mem_range.1 hi
  simp only [beq_iff_eq]
  exact fun e => by have := place_inj (by omega) hj e; omega
theorem seen_step (s : Nat → Nat) (n j q : Nat) : (if q = placeN s n j then Value.bool true else .bool (seenN s n j q)) = .bool (seenN s n (j + 1) q) := by
  unfold seenN
  rw [List.range_succ, List.any_append]
  by_cases h : q = placeN s n j
  · rw [if_pos h]; simp [h]
  · rw [if_neg h]
    have : ¬ placeN s n j = q := fun e => h e.symm
    simp [this]
end ShufLawOps
end Go.Proofs.YtjmbgdldnnmipaaDoor
