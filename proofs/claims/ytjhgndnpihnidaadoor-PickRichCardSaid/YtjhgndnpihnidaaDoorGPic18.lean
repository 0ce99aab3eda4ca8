/- A part of what the proofs stand on: ShufRefRound, ShufRefPlace, ShufRefList, ShufSame, ShufAwake, ShufLawOps. -/
import Derived.Test.YtjhgndnpihnidaaDoorGPic17
import Derived.Test.YtjhgndnpihnidaaDoorGPic13
import Derived.Test.YtjhgndnpihnidaaDoorGPic14
import Derived.Test.YtjhgndnpihnidaaDoorGPic16
/- A round, by the reference. (Printed by a program of mine.) -/
namespace Go.Proofs.YtjhgndnpihnidaaDoor
set_option maxRecDepth 40000
open Go.RowKit
namespace ShufRef
theorem run_bs0_U (w : World) : (Instr.buildSlice 39 0 #[]).run Tryd.prog w = .ok (.slice (some ⟨w.heap.size, 0, none⟩) 0 0) (w.alloc (.cells #[] 5)) := by simp [go_sem]
theorem quoU (a c q : Nat) (hc : 0 < c) (h : a / c = q) (ha : a < 18446744073709551616) (w : World) : (binOp .quo 22 (.int .u64 (a : Int)) (.int .u64 (c : Int))).run Tryd.prog w = .ok (.int .u64 (q : Int)) w := by
  have _h0 : (c : Int) ≠ 0 := by omega
  have e : (a : Int) / (c : Int) = (q : Int) := by rw [← h]; rfl
  have hl : q < 18446744073709551616 := by rw [← h]; exact Nat.lt_of_le_of_lt (Nat.div_le_self _ _) ha
  have e2 : IntKind.u64.wrap (q : Int) = (q : Int) := by rw [IntKind.wrap_u64]; omega
  have _h1 : ¬ c = 0 := by omega
  simp [go_sem]
  rw [if_neg _h1, e, e2]
theorem remK (a c q : Nat) (hc : 0 < c) (h : a % c = q) (ha : a < 18446744073709551616) (w : World) : (binOp .rem 22 (.int .u64 (a : Int)) (.int .u64 (c : Int))).run Tryd.prog w = .ok (.int .u64 (q : Int)) w := by
  rw [← h]; exact ShufRounds.remU a c hc ha w
theorem quo8 (a q : Nat) (h : a / 8 = q) (ha : a < 18446744073709551616) (w : World) : (binOp .quo 22 (.int .u64 (a : Int)) (.int .u64 8)).run Tryd.prog w = .ok (.int .u64 (q : Int)) w := quoU a 8 q (by omega) h ha w
theorem quo256 (a q : Nat) (h : a / 256 = q) (ha : a < 18446744073709551616) (w : World) : (binOp .quo 22 (.int .u64 (a : Int)) (.int .u64 256)).run Tryd.prog w = .ok (.int .u64 (q : Int)) w := quoU a 256 q (by omega) h ha w
theorem rem8 (a q : Nat) (h : a % 8 = q) (ha : a < 18446744073709551616) (w : World) : (binOp .rem 22 (.int .u64 (a : Int)) (.int .u64 8)).run Tryd.prog w = .ok (.int .u64 (q : Int)) w := remK a 8 q (by omega) h ha w
theorem rem256 (a q : Nat) (h : a % 256 = q) (ha : a < 18446744073709551616) (w : World) : (binOp .rem 22 (.int .u64 (a : Int)) (.int .u64 256)).run Tryd.prog w = .ok (.int .u64 (q : Int)) w := remK a 256 q (by omega) h ha w
theorem u8_info : (Tryd.prog.info? 5).map (fun i => (i.zero, i.size, i.bytes)) = some (some (.int .u8 0), 1, 1) := by kernel_rfl
theorem cat_Fn (k : Nat) (x y : Nat → Nat) (n : Nat) : ∀ i, i < n → catF k (u8v x) (u8v y) i = u8v (catN k x y) i := fun i _ => by
  simp only [catF, u8v, catN]; split <;> rfl
theorem cat_pre {s : Nat → Nat} {r : Nat} : ∀ q, q < 33 * 1 → catF (32 * 1) (u8v s) (fun _ => .int .u8 ((r : Nat) : Int)) q = u8v (preN s r) q := fun q _ => by
  simp only [catF, u8v, preN, catN, Nat.mul_one]
  split <;> rfl
theorem cat_blk {s : Nat → Nat} {r q0 : Nat} : ∀ q, q < 37 * 1 → catF (33 * 1) (u8v (preN s r)) (u8v (leB q0)) q = u8v (catN 33 (preN s r) (leB q0)) q := fun q _ => by
  simp only [catF, u8v, catN, Nat.mul_one]
  split <;> rfl
end ShufRef
open ShufRef ShufFn ShufRounds in
set_option maxHeartbeats 16000000 in
theorem round_ref (s : Nat → Nat) (hs : ∀ i, s i < 256) (n i r : Nat) (w : World) (hn : n ≤ 4294967296) (hi : i < n) (hr : r < 256) (hp : RefPkg w) :
    Calls Tryd.prog 85 #[.int .i64 (r : Int), .int .u64 (i : Int), .int .u64 (n : Int), rootV s] w fun e w' => e = .returned (.int .u64 ((stepN s n r i : Nat) : Int)) ∧ Below w.heap.size w w' := by
  have HS0 := Lib.hid (HS.nil w)
  have HP := Lib.hid hp
  obtain ⟨H, hH⟩ : ∃ H, H = shaB (preN s r) 33 := ⟨_, rfl⟩
  have HHl := Lib.hid (show ∀ i, H i < 256 by rw [hH]; exact fun i => shaB_lt _ _ i)
  have HHe := Lib.hid hH.symm
  obtain ⟨v, hv⟩ : ∃ v, v = pivN s n r := ⟨_, rfl⟩
  have HPv := Lib.hid (show rdN H 8 % n = v by rw [hv, hH]; rfl)
  have HR := Lib.hid (show rdN H 8 < 18446744073709551616 from rdN_lt HHl.out 8)
  have hvn : v < n := by rw [hv]; exact pivN_lt s _ (by omega)
  obtain ⟨f, hf⟩ : ∃ f, f = flipN v n i := ⟨_, rfl⟩
  have hfn : f < n := by rw [hf]; exact flip_lt hvn hi
  have HF := Lib.hid (show (v + n - i) % n = f by rw [hf]; exact flip_mod hvn hi)
  obtain ⟨p, hpm⟩ : ∃ p, p = max i f := ⟨_, rfl⟩
  obtain ⟨q, hq⟩ : ∃ q, q = p / 256 := ⟨_, rfl⟩
  obtain ⟨B, hB⟩ : ∃ B, B = blkN s r q := ⟨_, rfl⟩
  obtain ⟨m, hm⟩ : ∃ m, m = p % 256 := ⟨_, rfl⟩
  obtain ⟨k, hk⟩ : ∃ k, k = m / 8 := ⟨_, rfl⟩
  obtain ⟨y, hy⟩ : ∃ y, y = p % 8 := ⟨_, rfl⟩
  obtain ⟨z, hz⟩ : ∃ z, z = B k / 2 ^ y := ⟨_, rfl⟩
  obtain ⟨b, hb⟩ : ∃ b, b = z % 2 := ⟨_, rfl⟩
  have HE := Lib.hid (show (if b = 1 then f else i) = stepN s n r i by
    unfold stepN stepV turnN bitN
    rw [← hv, ← hf, ← hpm, ← hq, ← hB, ← hm, ← hk, ← hy, ← hz, ← hb]
    by_cases h : b = 1
    · subst h; rfl
    · rw [if_neg h, if_neg (by simpa using h)])
  have hz256 : z < 256 := by rw [hz, hB]; exact Nat.lt_of_le_of_lt (Nat.div_le_self _ _) (blkN_lt s r q k)
  have hk32 : k < 32 := by omega
  have hy8 : y < 8 := by omega
  have hm256 : m < 256 := by omega
  have hb2 : b = 0 ∨ b = 1 := by omega
  have H1 := Lib.hid hq.symm
  have H2 := Lib.hid hm.symm
  have H3 := Lib.hid hk.symm
  have H4 := Lib.hid hy.symm
  have H5 := Lib.hid hz.symm
  have H6 := Lib.hid hb.symm
  have HBe := Lib.hid (show shaB (catN 33 (preN s r) (leB q)) 37 = B by rw [hB]; rfl)
  have HSl := Lib.hid hs
  have HPl := Lib.hid (preN_lt hs hr)
  have HCl := Lib.hid (show ∀ i, catN 33 (preN s r) (leB q) i < 256 from catN_lt HPl.out (leB_lt q))
  have hmax : (i < f ∧ p = f) ∨ (¬ i < f ∧ p = i) := by omega
  have hpn : p < n := by omega
  clear hH hv hf hpm hq hB hm hk hy hz hb hs hp
  rcases hmax with ⟨hif, he⟩ | ⟨hif, he⟩
  · subst he
    have t1 : decide ((i : Int) < (p : Int)) = true := decide_eq_true (by omega)
    go_enter Tryd.func85, Tryd.ntmps85
    go_upto_region 9 with (first
      | (refine wpList_boxL rfl 24 _ 7 rfl rfl HS0.out 32 (u8v s) rfl ?_; intro b7 w1 hb7 hc7 hs; have HS1 := Lib.hid hs; have hb71 : b7 < w1.heap.size := hs.lt 0 rfl; clear hs)
      | (refine wpList_bs0L rfl 1 rfl run_bs0_U HS1.out ?_; intro b17 w2 hb17 hs ho; have HS2 := Lib.hid hs; have HO2 := Lib.hid (ho.mono hb71); clear hs ho)
      | (at_builtin; refine wpList_app0L rfl (.tmp 17) (.tmp 18) 39 (b7 + 1) (z := .int .u8 0) (k := 1) (bytes := 1) (by kernel_rfl) Tryd.underlying39 (by rfl) (by omega) rfl rfl HO2.out rfl (Rd.of_row (HS2.out.row 0 rfl) (show 32 * 1 ≤ 32 by omega) (HS2.out.lt 0 rfl)) (fun _ _ => rfl) ⟨by omega, by omega⟩ (by have := HO2.out.base_le _ rfl; omega) HS2.out ?_; intro A19 c19 w3 ho hs; have HO3 := Lib.hid ho; have HS3 := Lib.hid hs; have h13 : b7 + 1 ≤ w3.heap.size := HS3.out.lt 0 rfl; clear ho hs)
      | (refine wpList_as rfl 21 rfl (.int .u8 (r : Int)) ?_ ?_; (· exact ex_cnv rfl rfl (fun w => cvIB r hr w) _))
      | (refine wpList_bs1s rfl (.tmp 21) (.int .u8 (r : Int)) rfl rfl (fun w => run_bs1_B _ w) (HS.nil w3) ?_; intro b22 w4 hb22 hc22 hbl hs; have HR4 := Lib.hid (hs.row 0 rfl); have HB4 := Lib.hid hbl; clear hs hbl)
      | (at_builtin; refine wpList_appZ _ (.tmp 19) (.tmp 22) 39 (b7 + 1) (e := 5) (z := .int .u8 0) (k := 1) (bytes := 1) (by kernel_rfl) Tryd.underlying39 (by rfl) (by omega) rfl rfl 33 (u8v (preN s r)) rfl rfl (HO3.out.all HB4.out) (Rd.of_row (n := 1 * 1) HR4.out (Nat.le_refl _) HR4.out.lt) (fun _ _ => rfl) rfl cat_pre ⟨by omega, by omega⟩ (Nat.le_trans h13 HB4.out.size) ?_; intro A23 c23 w5 ho hg _; have HO5 := Lib.hid ho; have HS5 := Lib.hid ((HS3.out.below HB4.out).appO hg (B := b7 + 1) (fun ad e => (HO3.out.base_le ad e).1) (by simp; omega)); clear ho hg)
      | (go_at_call 53; refine (refSum_any 33 c23 A23 (preN s r) _ (by have h := HO5.out.rd; rwa [Nat.mul_one] at h) HPl.out (by omega) (HP.out.below (HS5.out.out (by simp; omega)))).mono ?_; rintro e w6 ⟨rfl, hb⟩; rw [HHe.out]; have HS6 := Lib.hid (HS5.out.below hb); have HO6 := Lib.hid (HO5.out.all hb); have HN6 := Lib.hid (HS.nil w6); clear hb)
      | (refine wpList_allocL rfl 24 10 rfl rfl HN6.out (Array.replicate 32 (.int .u8 0)) (by kernel_rfl) 32 (u8v fun _ => 0) (by rfl) (zero_at 32 (.int .u8 0)) ?_; intro b10 w7 hb10 hc10 hs; have HS7 := Lib.hid hs; clear hs)
      | (refine wpList_storeH rfl 24 (.tmp 10) (.tmp 25) rfl HS7.out 0 rfl (u8v H) rfl rfl (by kernel_rfl) (fun _ _ => rfl) ?_; intro w8 hs; have HS8 := Lib.hid hs; clear hs)
      | (go_at_call 92; refine (read_ref (some ⟨b10, 0, none⟩) 32 H _ (Rd.of_row (HS8.out.row 0 rfl) (show 8 ≤ 32 by omega) (HS8.out.lt 0 rfl)) HHl.out).mono ?_; rintro e wh ⟨rfl, hw⟩; rw [hw]; clear hw wh)
      | (refine wpList_as rfl 33 rfl (.int .u64 (v : Int)) ?_ ?_; (· exact ex_bin rfl rfl rfl rfl (fun w => remK (rdN H 8) n v (by omega) HPv.out HR.out w) _))
      | (refine wpList_as rfl 35 rfl (.int .u64 ((v + n : Nat) : Int)) ?_ ?_; (· exact ex_bin rfl rfl rfl rfl (fun w => addU v n w (by omega)) _))
      | (refine wpList_as rfl 37 rfl (.int .u64 ((v + n - i : Nat) : Int)) ?_ ?_; (· exact ex_bin rfl rfl rfl rfl (fun w => subU (v + n) i (by omega) w (by omega)) _))
      | (refine wpList_as rfl 39 rfl (.int .u64 (p : Int)) ?_ ?_; (· exact ex_bin rfl rfl rfl rfl (fun w => remK (v + n - i) n p (by omega) HF.out (by omega) w) _))
      | (refine wpList_as rfl 46 rfl (.int .u64 (q : Int)) ?_ ?_; (· exact ex_bin rfl rfl rfl rfl (fun w => quo256 _ q H1.out (by omega) w) _))
      | (go_at_call 51; refine (bytes_ref q _).mono ?_; rintro e w9 ⟨rfl, hb⟩; have HS9 := Lib.hid (HS8.out.below hb); clear hb)
      | (refine wpList_allocL rfl 103 15 rfl rfl HS9.out (Array.replicate 8 (.int .u8 0)) (by kernel_rfl) 8 (u8v fun _ => 0) (by rfl) (zero_at 8 (.int .u8 0)) ?_; intro b15 wa hb15 hc15 hs; have HSa := Lib.hid hs; clear hs)
      | (refine wpList_storeH rfl 103 (.tmp 15) (.tmp 47) rfl HSa.out 0 rfl (u8v (leB q)) rfl rfl (by kernel_rfl) (fun _ _ => rfl) ?_; intro wb hs; have HSb := Lib.hid hs; clear hs))
    obtain ⟨wr, hwr⟩ : ∃ wr, wr = wb := ⟨_, rfl⟩
    have HAr := Lib.hid (show Rd wr wr.heap.size A23 33 (u8v (preN s r)) by rw [hwr]; have h := (HO6.out.all (HSb.out.out (by simp; omega))).rd; rwa [Nat.mul_one] at h)
    have R15 := Lib.hid (show wr.rowIs b15 103 8 (u8v (leB q)) by rw [hwr]; exact HSb.out.row 0 rfl)
    have HWr := Lib.hid (show Below w.heap.size w wr by rw [hwr]; exact (HS6.out.out (by simp; omega)).trans ((HSb.out.out (by simp; omega)).mono HS6.out.size))
    have HPw := Lib.hid (HP.out.below HWr.out)
    rw [← hwr]
    clear hwr HSb HSa HS9 HS8 HS7 HN6 HO6 HS6 HS5 HO5 HB4 HR4 HS3 HO3 HO2 HS2 HS1 HS0 HP
    refine wp_region_own (l := [_, _, _, _, _, _, _]) (tl := [_]) (B := wr.heap.size) (w0 := wr) [OF.own0 wr.heap.size 5, OF.is (.slice (A23) (33) (c23)), OF.own wr.heap.size 5 33 (u8v (preN s r)), OF.is (.slice (some ⟨b15, 0, none⟩) (4) (8)), OF.own wr.heap.size 5 37 (u8v (catN 33 (preN s r) (leB q))), OF.is (rootV B), OF.new wr.heap.size 24 32 (u8v fun _ => 0)] [none, none, some 48, none, some 50, none, none] [true, false, true, false, false, false, false] (by kernel_rfl) (by kernel_rfl) rfl (Nat.le_refl _) (Below.refl _ _) ⟨?_, ?_, ?_, ?_, ?_, ?_, ?_, trivial⟩ ?_
    · exact opObO_bs0 rfl rfl run_bs0_u8 _ (Nat.le_refl _)
    · exact opObO_is ((opOb_move _ rfl (.inl rfl) rfl))
    · exact opObO_app0 (s := 48) wr.heap.size u8_info Tryd.underlying39 rfl rfl rfl (by rfl) (OpK.tmp rfl) (fun w' hb => HAr.out.below hb) (fun _ _ => rfl) (by omega) (Nat.le_refl _)
    · exact opObO_is (opOb_slc rfl rfl (OpK.tmp rfl) (OpKo.no) (OpKo.const) (fun w => cut_arr Tryd.underlying103 1 (by kernel_rfl) none (some _) (0) (4) (.inl ⟨rfl, rfl⟩) (.inr rfl) (by omega) (by omega) (by omega) (by omega) (by omega) (by omega)))
    · exact opObO_app (s := 50) wr.heap.size u8_info Tryd.underlying39 rfl rfl rfl (by rfl) (Nat.le_refl _) (OpK.tmp rfl) (fun w' hb => Rd.of_row (row_below (B := wr.heap.size) R15.out hb R15.out.lt) (show 4 ≤ 8 by omega) (Nat.lt_succ_self _)) (fun _ _ => rfl) 37 (u8v (catN 33 (preN s r) (leB q))) rfl (cat_Fn 33 (preN s r) (leB q) 37) (by omega) (Nat.le_refl _)
    · exact opObO_fn ent_refSum 52 wr.heap.size 5 37 (u8v (catN 33 (preN s r) (leB q))) (fun A c => #[.slice A 37 c]) rfl rfl (by rfl) (by simp) (fun a w A c hf e1 => by simp [e1]) (fun w' A c hb ho => (refSum_any 37 c A (catN 33 (preN s r) (leB q)) w' ho.rd HCl.out (by omega) (HPw.out.below hb)).mono fun e w'' ⟨he, hb2⟩ => ⟨by rw [he, HBe.out], hb2⟩)
    · exact opObO_new wr.heap.size rfl rfl (Array.replicate 32 (.int .u8 0)) (by kernel_rfl) 32 (u8v fun _ => 0) (by rfl) (zero_at 32 (.int .u8 0)) (Nat.le_refl _)
    · intro w' hb
      simp only [finO, OF.is, OF.new, OF.own, forall_eq]
      simp only [Act.put, List.setIfInBounds_toArray, List.set_cons_succ, List.set_cons_zero]
      rintro _ _ _ ⟨A52, c52, rfl, ho52⟩ _ ⟨b16, rfl, hb16, hr16⟩
      simp only [seqWp]
      refine wp_storeL 24 (.tmp 16) (.tmp 53) rfl (HS.own hr16) 0 rfl (u8v B) rfl rfl (by kernel_rfl) (fun _ _ => rfl) ?_
      intro wy hs
      have HY := Lib.hid (hs.row 0 rfl)
      have HW := Lib.hid ((HWr.out.trans (hb.mono HWr.out.size)).trans (hs.old (B := w.heap.size) (Nat.le_trans HWr.out.size hb.size) (by simp; have := HWr.out.size; omega)))
      clear hs hb hr16 ho52 HAr HPw R15
      rcases hb2 with he2 | he2
      · subst he2
        go_wp2_with (first
          | (refine wpList_as rfl 55 rfl (.int .u64 (m : Int)) ?_ ?_; (· exact ex_bin rfl rfl rfl rfl (fun w => rem256 p m H2.out (by omega) w) _))
          | (refine wpList_as rfl 56 rfl (.int .u64 (k : Int)) ?_ ?_; (· exact ex_bin rfl rfl rfl rfl (fun w => quo8 m k H3.out (by omega) w) _))
          | (refine wpList_as rfl 57 rfl (.pointer (some ⟨b16, 0 + k, none⟩)) ?_ ?_; (· exact ex_idx rfl rfl rfl (fun w => (run_idx32 w ⟨b16, 0, none⟩ k hk32).trans (by rw [add_litO])) _))
          | (refine wpList_as rfl 58 rfl (.int .u8 ((B k : Nat) : Int)) ?_ ?_; (· exact ex_ld1 .u8 rfl rfl Tryd.underlying5 (by rw [Nat.zero_add]; exact HY.out.cell hk32)))
          | (refine wpList_as rfl 60 rfl (.int .u64 (y : Int)) ?_ ?_; (· exact ex_bin rfl rfl rfl rfl (fun w => rem8 p y H4.out (by omega) w) _))
          | (refine wpList_as rfl 61 rfl (.int .u8 (z : Int)) ?_ ?_; (· rw [← H5.out]; exact ex_bin rfl rfl rfl rfl (fun w => shrB (B k) y hy8 w) _))
          | (refine wpList_as rfl 62 rfl (.int .u8 0) ?_ ?_; (· exact ex_bin rfl rfl rfl rfl (fun w => and1B z 0 hz256 H6.out w) _)))
        go_ret
        exact ⟨by rw [← HE.out]; rfl, HW.out⟩
      · subst he2
        go_wp2_with (first
          | (refine wpList_as rfl 55 rfl (.int .u64 (m : Int)) ?_ ?_; (· exact ex_bin rfl rfl rfl rfl (fun w => rem256 p m H2.out (by omega) w) _))
          | (refine wpList_as rfl 56 rfl (.int .u64 (k : Int)) ?_ ?_; (· exact ex_bin rfl rfl rfl rfl (fun w => quo8 m k H3.out (by omega) w) _))
          | (refine wpList_as rfl 57 rfl (.pointer (some ⟨b16, 0 + k, none⟩)) ?_ ?_; (· exact ex_idx rfl rfl rfl (fun w => (run_idx32 w ⟨b16, 0, none⟩ k hk32).trans (by rw [add_litO])) _))
          | (refine wpList_as rfl 58 rfl (.int .u8 ((B k : Nat) : Int)) ?_ ?_; (· exact ex_ld1 .u8 rfl rfl Tryd.underlying5 (by rw [Nat.zero_add]; exact HY.out.cell hk32)))
          | (refine wpList_as rfl 60 rfl (.int .u64 (y : Int)) ?_ ?_; (· exact ex_bin rfl rfl rfl rfl (fun w => rem8 p y H4.out (by omega) w) _))
          | (refine wpList_as rfl 61 rfl (.int .u8 (z : Int)) ?_ ?_; (· rw [← H5.out]; exact ex_bin rfl rfl rfl rfl (fun w => shrB (B k) y hy8 w) _))
          | (refine wpList_as rfl 62 rfl (.int .u8 1) ?_ ?_; (· exact ex_bin rfl rfl rfl rfl (fun w => and1B z 1 hz256 H6.out w) _)))
        go_ret
        exact ⟨by rw [← HE.out]; rfl, HW.out⟩
  · subst he
    have t1 : decide ((p : Int) < (f : Int)) = false := decide_eq_false (by omega)
    go_enter Tryd.func85, Tryd.ntmps85
    go_upto_region 9 with (first
      | (refine wpList_boxL rfl 24 _ 7 rfl rfl HS0.out 32 (u8v s) rfl ?_; intro b7 w1 hb7 hc7 hs; have HS1 := Lib.hid hs; have hb71 : b7 < w1.heap.size := hs.lt 0 rfl; clear hs)
      | (refine wpList_bs0L rfl 1 rfl run_bs0_U HS1.out ?_; intro b17 w2 hb17 hs ho; have HS2 := Lib.hid hs; have HO2 := Lib.hid (ho.mono hb71); clear hs ho)
      | (at_builtin; refine wpList_app0L rfl (.tmp 17) (.tmp 18) 39 (b7 + 1) (z := .int .u8 0) (k := 1) (bytes := 1) (by kernel_rfl) Tryd.underlying39 (by rfl) (by omega) rfl rfl HO2.out rfl (Rd.of_row (HS2.out.row 0 rfl) (show 32 * 1 ≤ 32 by omega) (HS2.out.lt 0 rfl)) (fun _ _ => rfl) ⟨by omega, by omega⟩ (by have := HO2.out.base_le _ rfl; omega) HS2.out ?_; intro A19 c19 w3 ho hs; have HO3 := Lib.hid ho; have HS3 := Lib.hid hs; have h13 : b7 + 1 ≤ w3.heap.size := HS3.out.lt 0 rfl; clear ho hs)
      | (refine wpList_as rfl 21 rfl (.int .u8 (r : Int)) ?_ ?_; (· exact ex_cnv rfl rfl (fun w => cvIB r hr w) _))
      | (refine wpList_bs1s rfl (.tmp 21) (.int .u8 (r : Int)) rfl rfl (fun w => run_bs1_B _ w) (HS.nil w3) ?_; intro b22 w4 hb22 hc22 hbl hs; have HR4 := Lib.hid (hs.row 0 rfl); have HB4 := Lib.hid hbl; clear hs hbl)
      | (at_builtin; refine wpList_appZ _ (.tmp 19) (.tmp 22) 39 (b7 + 1) (e := 5) (z := .int .u8 0) (k := 1) (bytes := 1) (by kernel_rfl) Tryd.underlying39 (by rfl) (by omega) rfl rfl 33 (u8v (preN s r)) rfl rfl (HO3.out.all HB4.out) (Rd.of_row (n := 1 * 1) HR4.out (Nat.le_refl _) HR4.out.lt) (fun _ _ => rfl) rfl cat_pre ⟨by omega, by omega⟩ (Nat.le_trans h13 HB4.out.size) ?_; intro A23 c23 w5 ho hg _; have HO5 := Lib.hid ho; have HS5 := Lib.hid ((HS3.out.below HB4.out).appO hg (B := b7 + 1) (fun ad e => (HO3.out.base_le ad e).1) (by simp; omega)); clear ho hg)
      | (go_at_call 53; refine (refSum_any 33 c23 A23 (preN s r) _ (by have h := HO5.out.rd; rwa [Nat.mul_one] at h) HPl.out (by omega) (HP.out.below (HS5.out.out (by simp; omega)))).mono ?_; rintro e w6 ⟨rfl, hb⟩; rw [HHe.out]; have HS6 := Lib.hid (HS5.out.below hb); have HO6 := Lib.hid (HO5.out.all hb); have HN6 := Lib.hid (HS.nil w6); clear hb)
      | (refine wpList_allocL rfl 24 10 rfl rfl HN6.out (Array.replicate 32 (.int .u8 0)) (by kernel_rfl) 32 (u8v fun _ => 0) (by rfl) (zero_at 32 (.int .u8 0)) ?_; intro b10 w7 hb10 hc10 hs; have HS7 := Lib.hid hs; clear hs)
      | (refine wpList_storeH rfl 24 (.tmp 10) (.tmp 25) rfl HS7.out 0 rfl (u8v H) rfl rfl (by kernel_rfl) (fun _ _ => rfl) ?_; intro w8 hs; have HS8 := Lib.hid hs; clear hs)
      | (go_at_call 92; refine (read_ref (some ⟨b10, 0, none⟩) 32 H _ (Rd.of_row (HS8.out.row 0 rfl) (show 8 ≤ 32 by omega) (HS8.out.lt 0 rfl)) HHl.out).mono ?_; rintro e wh ⟨rfl, hw⟩; rw [hw]; clear hw wh)
      | (refine wpList_as rfl 33 rfl (.int .u64 (v : Int)) ?_ ?_; (· exact ex_bin rfl rfl rfl rfl (fun w => remK (rdN H 8) n v (by omega) HPv.out HR.out w) _))
      | (refine wpList_as rfl 35 rfl (.int .u64 ((v + n : Nat) : Int)) ?_ ?_; (· exact ex_bin rfl rfl rfl rfl (fun w => addU v n w (by omega)) _))
      | (refine wpList_as rfl 37 rfl (.int .u64 ((v + n - p : Nat) : Int)) ?_ ?_; (· exact ex_bin rfl rfl rfl rfl (fun w => subU (v + n) p (by omega) w (by omega)) _))
      | (refine wpList_as rfl 39 rfl (.int .u64 (f : Int)) ?_ ?_; (· exact ex_bin rfl rfl rfl rfl (fun w => remK (v + n - p) n f (by omega) HF.out (by omega) w) _))
      | (refine wpList_as rfl 46 rfl (.int .u64 (q : Int)) ?_ ?_; (· exact ex_bin rfl rfl rfl rfl (fun w => quo256 _ q H1.out (by omega) w) _))
      | (go_at_call 51; refine (bytes_ref q _).mono ?_; rintro e w9 ⟨rfl, hb⟩; have HS9 := Lib.hid (HS8.out.below hb); clear hb)
      | (refine wpList_allocL rfl 103 15 rfl rfl HS9.out (Array.replicate 8 (.int .u8 0)) (by kernel_rfl) 8 (u8v fun _ => 0) (by rfl) (zero_at 8 (.int .u8 0)) ?_; intro b15 wa hb15 hc15 hs; have HSa := Lib.hid hs; clear hs)
      | (refine wpList_storeH rfl 103 (.tmp 15) (.tmp 47) rfl HSa.out 0 rfl (u8v (leB q)) rfl rfl (by kernel_rfl) (fun _ _ => rfl) ?_; intro wb hs; have HSb := Lib.hid hs; clear hs))
    obtain ⟨wr, hwr⟩ : ∃ wr, wr = wb := ⟨_, rfl⟩
    have HAr := Lib.hid (show Rd wr wr.heap.size A23 33 (u8v (preN s r)) by rw [hwr]; have h := (HO6.out.all (HSb.out.out (by simp; omega))).rd; rwa [Nat.mul_one] at h)
    have R15 := Lib.hid (show wr.rowIs b15 103 8 (u8v (leB q)) by rw [hwr]; exact HSb.out.row 0 rfl)
    have HWr := Lib.hid (show Below w.heap.size w wr by rw [hwr]; exact (HS6.out.out (by simp; omega)).trans ((HSb.out.out (by simp; omega)).mono HS6.out.size))
    have HPw := Lib.hid (HP.out.below HWr.out)
    rw [← hwr]
    clear hwr HSb HSa HS9 HS8 HS7 HN6 HO6 HS6 HS5 HO5 HB4 HR4 HS3 HO3 HO2 HS2 HS1 HS0 HP
    refine wp_region_own (l := [_, _, _, _, _, _, _]) (tl := [_]) (B := wr.heap.size) (w0 := wr) [OF.own0 wr.heap.size 5, OF.is (.slice (A23) (33) (c23)), OF.own wr.heap.size 5 33 (u8v (preN s r)), OF.is (.slice (some ⟨b15, 0, none⟩) (4) (8)), OF.own wr.heap.size 5 37 (u8v (catN 33 (preN s r) (leB q))), OF.is (rootV B), OF.new wr.heap.size 24 32 (u8v fun _ => 0)] [none, none, some 48, none, some 50, none, none] [true, false, true, false, false, false, false] (by kernel_rfl) (by kernel_rfl) rfl (Nat.le_refl _) (Below.refl _ _) ⟨?_, ?_, ?_, ?_, ?_, ?_, ?_, trivial⟩ ?_
    · exact opObO_bs0 rfl rfl run_bs0_u8 _ (Nat.le_refl _)
    · exact opObO_is ((opOb_move _ rfl (.inl rfl) rfl))
    · exact opObO_app0 (s := 48) wr.heap.size u8_info Tryd.underlying39 rfl rfl rfl (by rfl) (OpK.tmp rfl) (fun w' hb => HAr.out.below hb) (fun _ _ => rfl) (by omega) (Nat.le_refl _)
    · exact opObO_is (opOb_slc rfl rfl (OpK.tmp rfl) (OpKo.no) (OpKo.const) (fun w => cut_arr Tryd.underlying103 1 (by kernel_rfl) none (some _) (0) (4) (.inl ⟨rfl, rfl⟩) (.inr rfl) (by omega) (by omega) (by omega) (by omega) (by omega) (by omega)))
    · exact opObO_app (s := 50) wr.heap.size u8_info Tryd.underlying39 rfl rfl rfl (by rfl) (Nat.le_refl _) (OpK.tmp rfl) (fun w' hb => Rd.of_row (row_below (B := wr.heap.size) R15.out hb R15.out.lt) (show 4 ≤ 8 by omega) (Nat.lt_succ_self _)) (fun _ _ => rfl) 37 (u8v (catN 33 (preN s r) (leB q))) rfl (cat_Fn 33 (preN s r) (leB q) 37) (by omega) (Nat.le_refl _)
    · exact opObO_fn ent_refSum 52 wr.heap.size 5 37 (u8v (catN 33 (preN s r) (leB q))) (fun A c => #[.slice A 37 c]) rfl rfl (by rfl) (by simp) (fun a w A c hf e1 => by simp [e1]) (fun w' A c hb ho => (refSum_any 37 c A (catN 33 (preN s r) (leB q)) w' ho.rd HCl.out (by omega) (HPw.out.below hb)).mono fun e w'' ⟨he, hb2⟩ => ⟨by rw [he, HBe.out], hb2⟩)
    · exact opObO_new wr.heap.size rfl rfl (Array.replicate 32 (.int .u8 0)) (by kernel_rfl) 32 (u8v fun _ => 0) (by rfl) (zero_at 32 (.int .u8 0)) (Nat.le_refl _)
    · intro w' hb
      simp only [finO, OF.is, OF.new, OF.own, forall_eq]
      simp only [Act.put, List.setIfInBounds_toArray, List.set_cons_succ, List.set_cons_zero]
      rintro _ _ _ ⟨A52, c52, rfl, ho52⟩ _ ⟨b16, rfl, hb16, hr16⟩
      simp only [seqWp]
      refine wp_storeL 24 (.tmp 16) (.tmp 53) rfl (HS.own hr16) 0 rfl (u8v B) rfl rfl (by kernel_rfl) (fun _ _ => rfl) ?_
      intro wy hs
      have HY := Lib.hid (hs.row 0 rfl)
      have HW := Lib.hid ((HWr.out.trans (hb.mono HWr.out.size)).trans (hs.old (B := w.heap.size) (Nat.le_trans HWr.out.size hb.size) (by simp; have := HWr.out.size; omega)))
      clear hs hb hr16 ho52 HAr HPw R15
      rcases hb2 with he2 | he2
      · subst he2
        go_wp2_with (first
          | (refine wpList_as rfl 55 rfl (.int .u64 (m : Int)) ?_ ?_; (· exact ex_bin rfl rfl rfl rfl (fun w => rem256 p m H2.out (by omega) w) _))
          | (refine wpList_as rfl 56 rfl (.int .u64 (k : Int)) ?_ ?_; (· exact ex_bin rfl rfl rfl rfl (fun w => quo8 m k H3.out (by omega) w) _))
          | (refine wpList_as rfl 57 rfl (.pointer (some ⟨b16, 0 + k, none⟩)) ?_ ?_; (· exact ex_idx rfl rfl rfl (fun w => (run_idx32 w ⟨b16, 0, none⟩ k hk32).trans (by rw [add_litO])) _))
          | (refine wpList_as rfl 58 rfl (.int .u8 ((B k : Nat) : Int)) ?_ ?_; (· exact ex_ld1 .u8 rfl rfl Tryd.underlying5 (by rw [Nat.zero_add]; exact HY.out.cell hk32)))
          | (refine wpList_as rfl 60 rfl (.int .u64 (y : Int)) ?_ ?_; (· exact ex_bin rfl rfl rfl rfl (fun w => rem8 p y H4.out (by omega) w) _))
          | (refine wpList_as rfl 61 rfl (.int .u8 (z : Int)) ?_ ?_; (· rw [← H5.out]; exact ex_bin rfl rfl rfl rfl (fun w => shrB (B k) y hy8 w) _))
          | (refine wpList_as rfl 62 rfl (.int .u8 0) ?_ ?_; (· exact ex_bin rfl rfl rfl rfl (fun w => and1B z 0 hz256 H6.out w) _)))
        go_ret
        exact ⟨by rw [← HE.out]; rfl, HW.out⟩
      · subst he2
        go_wp2_with (first
          | (refine wpList_as rfl 55 rfl (.int .u64 (m : Int)) ?_ ?_; (· exact ex_bin rfl rfl rfl rfl (fun w => rem256 p m H2.out (by omega) w) _))
          | (refine wpList_as rfl 56 rfl (.int .u64 (k : Int)) ?_ ?_; (· exact ex_bin rfl rfl rfl rfl (fun w => quo8 m k H3.out (by omega) w) _))
          | (refine wpList_as rfl 57 rfl (.pointer (some ⟨b16, 0 + k, none⟩)) ?_ ?_; (· exact ex_idx rfl rfl rfl (fun w => (run_idx32 w ⟨b16, 0, none⟩ k hk32).trans (by rw [add_litO])) _))
          | (refine wpList_as rfl 58 rfl (.int .u8 ((B k : Nat) : Int)) ?_ ?_; (· exact ex_ld1 .u8 rfl rfl Tryd.underlying5 (by rw [Nat.zero_add]; exact HY.out.cell hk32)))
          | (refine wpList_as rfl 60 rfl (.int .u64 (y : Int)) ?_ ?_; (· exact ex_bin rfl rfl rfl rfl (fun w => rem8 p y H4.out (by omega) w) _))
          | (refine wpList_as rfl 61 rfl (.int .u8 (z : Int)) ?_ ?_; (· rw [← H5.out]; exact ex_bin rfl rfl rfl rfl (fun w => shrB (B k) y hy8 w) _))
          | (refine wpList_as rfl 62 rfl (.int .u8 1) ?_ ?_; (· exact ex_bin rfl rfl rfl rfl (fun w => and1B z 1 hz256 H6.out w) _)))
        go_ret
        exact ⟨by rw [← HE.out]; rfl, HW.out⟩
end Go.Proofs.YtjhgndnpihnidaaDoor
/- Place and Back, by the reference. -/
namespace Go.Proofs.YtjhgndnpihnidaaDoor
set_option maxRecDepth 40000
open Go.RowKit
set_option maxHeartbeats 4000000 in
theorem placeRef_no (s : Nat → Nat) (n i : Nat) (w : World) (h : 4294967296 < n ∨ n ≤ i) :
    Calls Tryd.prog 72 #[.int .u64 (i : Int), .int .u64 (n : Int), rootV s] w fun e w' => e = noPlace ∧ Below w.heap.size w w' := by
  have HS0 := Lib.hid (HS.nil w)
  by_cases h0 : n = 0
  · have t0 : ((n : Int) == 0) = true := by rw [beq_iff_eq]; omega
    go_enter Tryd.func72, Tryd.ntmps72
    go_wp2_with (refine wpList_boxL rfl 24 _ 5 rfl rfl HS0.out 32 (u8v s) rfl ?_; intro b5 w5 hb5 hc5 hs; have HS5 := Lib.hid hs; clear hs)
    go_ret2
    exact ⟨rfl, HS5.out.out (by simp; omega)⟩
  · have t0 : ((n : Int) == 0) = false := by rw [beq_eq_false_iff_ne]; omega
    by_cases h1 : 4294967296 < n
    · have t1 : decide ((4294967296 : Int) < (n : Int)) = true := decide_eq_true (by omega)
      go_enter Tryd.func72, Tryd.ntmps72
      go_wp2_with (refine wpList_boxL rfl 24 _ 5 rfl rfl HS0.out 32 (u8v s) rfl ?_; intro b5 w5 hb5 hc5 hs; have HS5 := Lib.hid hs; clear hs)
      go_ret2
      exact ⟨rfl, HS5.out.out (by simp; omega)⟩
    · have t1 : decide ((4294967296 : Int) < (n : Int)) = false := decide_eq_false (by omega)
      have t2 : decide ((n : Int) ≤ (i : Int)) = true := decide_eq_true (by omega)
      go_enter Tryd.func72, Tryd.ntmps72
      go_wp2_with (refine wpList_boxL rfl 24 _ 5 rfl rfl HS0.out 32 (u8v s) rfl ?_; intro b5 w5 hb5 hc5 hs; have HS5 := Lib.hid hs; clear hs)
      go_ret2
      exact ⟨rfl, HS5.out.out (by simp; omega)⟩
set_option maxHeartbeats 4000000 in
theorem placeRef_ok (s : Nat → Nat) (hs : ∀ i, s i < 256) (n i : Nat) (w : World) (hn : n ≤ 4294967296) (hi : i < n) (hp : RefPkg w) :
    Calls Tryd.prog 72 #[.int .u64 (i : Int), .int .u64 (n : Int), rootV s] w fun e w' => e = .returned (.tuple #[.int .u64 ((placeN s n i : Nat) : Int), .int .i64 0]) ∧ Below w.heap.size w w' := by
  have HS0 := Lib.hid (HS.nil w)
  have HP := Lib.hid hp
  have HSl := Lib.hid hs
  have HWk := Lib.hid (fun k => walk_lt (s := s) (ρ := fwd) hi k)
  have t0 : ((n : Int) == 0) = false := by rw [beq_eq_false_iff_ne]; omega
  have t1 : decide ((4294967296 : Int) < (n : Int)) = false := decide_eq_false (by omega)
  have t2 : decide ((n : Int) ≤ (i : Int)) = false := decide_eq_false (by omega)
  have t3 : decide (n ≤ i) = false := decide_eq_false (by omega)
  clear hp hs
  go_enter Tryd.func72, Tryd.ntmps72
  go_wp2_with (refine wpList_boxL rfl 24 _ 5 rfl rfl HS0.out 32 (u8v s) rfl ?_; intro b5 w5 hb5 hc5 hs; have HS5 := Lib.hid hs; clear hs)
  go_loopw [0, 8] (fun o0 o8 wr => ∃ k : Nat, o0 = .int .u64 ((walkN s n fwd k i : Nat) : Int) ∧ o8 = .int .i64 (k : Int) ∧ k ≤ 6 ∧ HS w wr [⟨b5, 24, 32, u8v s⟩]) (fun _ ix _ => 6 - (intOf ix).toNat)
  case atStart => exact ⟨0, rfl, rfl, by omega, HS5.out⟩
  case round =>
    clear HS5
    obtain ⟨k, rfl, rfl, hk, hs⟩ := hrel
    have HSr := Lib.hid hs
    clear hs
    by_cases hk6 : k < 6
    · obtain ⟨x, hx⟩ : ∃ x, x = walkN s n fwd k i := ⟨_, rfl⟩
      have HE := Lib.hid (show stepN s n k x = walkN s n fwd (k + 1) i by rw [hx]; rfl)
      have hxn : x < n := by rw [hx]; exact HWk.out k
      rw [← hx]
      clear hx
      go_wp2_with (first
        | (refine wpList_load_rd rfl 24 _ rfl 32 _ Tryd.underlying24 rfl (by kernel_rfl) ⟨b5, 0, none⟩ rfl (u8v s) (fun i hi => by rw [add_lit0]; exact HSr.out.cell 0 i rfl hi) ?_)
        | (go_at_call 85; refine (round_ref s HSl.out n x k _ hn hxn (by omega) (HP.out.below (HSr.out.out (by simp; omega)))).mono ?_; rintro e w6 ⟨rfl, hb⟩; rw [HE.out]; have HS6 := Lib.hid (HSr.out.below hb); clear hb))
      go_roundw
      case rel => exact ⟨k + 1, rfl, by go_num, by omega, HS6.out⟩
      case measure => simp [intOf]; omega
    · obtain rfl : k = 6 := by omega
      go_wp2_with fail
      go_ret2
      exact ⟨rfl, HSr.out.out (by simp; omega)⟩
end Go.Proofs.YtjhgndnpihnidaaDoor
/- List and Same, by the reference. -/
namespace Go.Proofs.YtjhgndnpihnidaaDoor
set_option maxRecDepth 40000
open Go.RowKit
namespace ShufRefList
theorem cvIU (m : Nat) (hm : m < 9223372036854775808) (w : World) : (convert 3 22 (.int .i64 (m:Int))).run Tryd.prog w = .ok (.int .u64 (m:Int)) w := by
  simp [go_sem, IntKind.wrap, IntKind.bits, IntKind.signed]; omega
theorem run_idxZV {P : Program} (w : World) {t e : TypeId} {z n c k : Nat} (hu : P.underlying t = some (.slice e)) (hz : (P.info? e).map (·.size) = some z) (ad : Addr) (hk : k < n) : (Instr.indexAt t (.slice (some ad) n c) (.int .u64 (k : Int))).run P w = .ok (.pointer (some (ad.add (k * z)))) w := by
  have h1 : ¬ n ≤ k := by omega
  simp [Instr.indexAt, run_underlying hu, sizeOf_run hz, go_sem, h1]
theorem run_bs1_64 (v : Int) (w : World) : (Instr.buildSlice 37 1 #[(0, .int .u64 v)]).run Tryd.prog w = .ok (.slice (some ⟨w.heap.size, 0, none⟩) 1 1) (w.alloc (.cells #[.int .u64 v] 22)) := by simp [go_sem]
theorem cat_one {x : Nat → Nat} {k : Nat} : ∀ q, q < (k + 1) * 1 → catF (k * 1) (u64v x) (fun _ => .int .u64 ((x k : Nat) : Int)) q = u64v x q := fun q hq => by
  unfold catF
  by_cases h : q < k * 1
  · rw [if_pos h]
  · rw [if_neg h, show q = k by omega]
end ShufRefList
end Go.Proofs.YtjhgndnpihnidaaDoor
/- pharosref12.Same of lists that are alike. (Printed by a program of mine.) -/
namespace Go.Proofs.YtjhgndnpihnidaaDoor
set_option maxRecDepth 40000
open Go.RowKit
set_option maxHeartbeats 4000000 in
theorem same12_any (n c c' : Nat) (A A' : Option Addr) (x : Nat → Nat) (w : World) (hb : Rd w w.heap.size A n (u64v x)) (hb' : Rd w w.heap.size A' n (u64v x)) (hn : n ≤ 9223372036854775807) :
    Calls Tryd.prog 37 #[.slice A n c, .slice A' n c'] w fun e w' => e = .returned (.bool true) ∧ Below w.heap.size w w' := by
  have HB := Lib.hid hb
  have HB2 := Lib.hid hb'
  clear hb hb'
  go_enter Tryd.func37, Tryd.ntmps37
  go_wp2_with fail
  go_loopw [5] (fun i wr => ∃ j : Nat, i = .int .i64 (j : Int) ∧ j ≤ n ∧ Below w.heap.size w wr) (fun i _ => n - (intOf i).toNat)
  case atStart => exact ⟨0, rfl, by omega, Below.refl _ _⟩
  case round =>
    obtain ⟨j, rfl, hj, hbw⟩ := hrel
    have HW := Lib.hid hbw
    clear hbw
    by_cases hjn : j < n
    · obtain ⟨ad, hA, _, _⟩ := HB.out (show 0 < n by omega)
      subst hA
      obtain ⟨ad2, hA2, _, _⟩ := HB2.out (show 0 < n by omega)
      subst hA2
      have HCL : Hid (∀ w', Below wr.heap.size wr w' → ∀ i, i < n → w'.cell? (ad.add (i * 1)) = some (u64v x i)) := Lib.hid (fun w' hb i hi => by rw [Nat.mul_one]; exact (HB.out.below (HW.out.trans (hb.mono HW.out.size))).cells hi)
      have HCL2 : Hid (∀ w', Below wr.heap.size wr w' → ∀ i, i < n → w'.cell? (ad2.add (i * 1)) = some (u64v x i)) := Lib.hid (fun w' hb i hi => by rw [Nat.mul_one]; exact (HB2.out.below (HW.out.trans (hb.mono HW.out.size))).cells hi)
      go_wp2_with fail
      refine wp_region_facts (B := wr.heap.size) (w0 := wr) [SF.is (.slice (some ad) (n) (c)), SF.is (.int .i64 ((j : Nat) : Int)), SF.is (.pointer (some (ad.add (j * 1)))), SF.is (.int .u64 ((x j : Nat) : Int)), SF.is (.slice (some ad2) (n) (c')), SF.is (.int .i64 ((j : Nat) : Int)), SF.is (.pointer (some (ad2.add (j * 1)))), SF.is (.int .u64 ((x j : Nat) : Int)), SF.is (.bool false)] (by kernel_rfl) (by kernel_rfl) rfl (Nat.le_refl _) (Below.refl _ _) ⟨?_, ?_, ?_, ?_, ?_, ?_, ?_, ?_, ?_, trivial⟩ ?_
      · exact (opOb_move _ rfl (.inl rfl) rfl)
      · exact (opOb_move _ rfl (.inl rfl) rfl)
      · exact opOb_idx rfl rfl (OpK.tmp rfl) (OpK.tmp rfl) (fun w => run_idxZ (z := 1) (k := j) w Tryd.underlying37 (by kernel_rfl) ad (by omega))
      · exact opOb_ld rfl rfl (OpK.tmp rfl) (fun w' hb => run_ld1 w' (ad.add (j * 1)) _ .u64 _ (HCL.out w' hb j (by omega)) Tryd.underlying22)
      · exact (opOb_move _ rfl (.inl rfl) rfl)
      · exact (opOb_move _ rfl (.inl rfl) rfl)
      · exact opOb_idx rfl rfl (OpK.tmp rfl) (OpK.tmp rfl) (fun w => run_idxZ (z := 1) (k := j) w Tryd.underlying37 (by kernel_rfl) ad2 (by omega))
      · exact opOb_ld rfl rfl (OpK.tmp rfl) (fun w' hb => run_ld1 w' (ad2.add (j * 1)) _ .u64 _ (HCL2.out w' hb j (by omega)) Tryd.underlying22)
      · exact opOb_neSame .u64 ((x j : Nat) : Int) rfl rfl (OpK.tmp rfl) (OpK.tmp rfl)
      · intro w' hb
        simp only [fin, SF.is, forall_eq]
        simp only [Act.put, List.setIfInBounds_toArray, List.set_cons_succ, List.set_cons_zero]
        have hend := Lib.hid (HW.out.trans (hb.mono HW.out.size))
        clear hb
        go_wp2_with fail
        go_roundw
        case rel => exact ⟨j + 1, by go_num, by omega, hend.out⟩
        case measure => simp [intOf]; omega
    · go_wp2_with fail
      go_ret
      exact ⟨rfl, HW.out⟩
end Go.Proofs.YtjhgndnpihnidaaDoor
/- pharoslaw12.awake. (Printed by a program of mine.) -/
namespace Go.Proofs.YtjhgndnpihnidaaDoor
set_option maxRecDepth 40000
open Go.RowKit
namespace ShufAwake
theorem run_bs3_64 (w : World) : (Instr.buildSlice 37 3 #[(0, .int .u64 5), (1, .int .u64 6), (2, .int .u64 7)]).run Tryd.prog w = .ok (.slice (some ⟨w.heap.size, 0, none⟩) 3 3) (w.alloc (.cells #[.int .u64 5, .int .u64 6, .int .u64 7] 22)) := by simp [go_sem]
theorem cs567 : ∀ i, i < 3 → (#[Value.int .u64 5, .int .u64 6, .int .u64 7] : Array Value)[i]? = some (u64v (fun i => 5 + i) i) := fun i hi => by
  rcases (show i = 0 ∨ i = 1 ∨ i = 2 by omega) with rfl | rfl | rfl <;> rfl
theorem wpList_bs567 {ops : Array Oper} {rest : List Oper} {o : Oper} {a : Act} {w w0 : World} {Q : Exit → Act → World → Prop} {rows : List RowSpec} (hgd : o.guard = none) (ho : o.op = .buildSlice 37 3 #[(0, .const (.int .u64 5)), (1, .const (.int .u64 6)), (2, .const (.int .u64 7))]) (h : HS w0 w rows)
    (hK : ∀ b w', w0.heap.size ≤ b → HS w0 w' (⟨b, 22, 3, u64v fun i => 5 + i⟩ :: rows) → wpList Tryd.prog ops Q rest (a.put o.dst (.slice (some ⟨b, 0, none⟩) 3 3)) w') : wpList Tryd.prog ops Q (o :: rest) a w :=
  wpList_plain hgd fun _ hK' => by
    have hrun : (execOp a.eval o).run Tryd.prog w = .ok (.value (.slice (some ⟨w.heap.size, 0, none⟩) 3 3)) (w.alloc (.cells #[.int .u64 5, .int .u64 6, .int .u64 7] 22)) := by
      have h0 := run_bs3_64 w
      unfold execOp
      rw [ho]
      simp only [List.map_toArray, List.map_cons, List.map_nil, Act.eval]
      simp [h0]
    unfold Oper.wp
    rw [hrun]
    exact hK' _ _ (hK _ _ h.size (h.alloc _ 22 3 (u64v fun i => 5 + i) rfl cs567))
end ShufAwake
end Go.Proofs.YtjhgndnpihnidaaDoor
/- Numbers of 64 bits that wrap around, and rows of them, as the laws of this chapter use them. (Printed by a program of mine.) -/
namespace Go.Proofs.YtjhgndnpihnidaaDoor
set_option maxRecDepth 40000
open Go.RowKit
namespace ShufLawOps
theorem mulW (a b r : Nat) (h : a * b % 18446744073709551616 = r) (w : World) : (binOp .mul 22 (.int .u64 (a : Int)) (.int .u64 (b : Int))).run Tryd.prog w = .ok (.int .u64 (r : Int)) w := by
  subst h
  simp [go_sem, IntKind.wrap, IntKind.bits, IntKind.signed]
theorem addW (a b r : Nat) (h : (a + b) % 18446744073709551616 = r) (w : World) : (binOp .add 22 (.int .u64 (a : Int)) (.int .u64 (b : Int))).run Tryd.prog w = .ok (.int .u64 (r : Int)) w := by
  subst h
  simp [go_sem, IntKind.wrap, IntKind.bits, IntKind.signed]
theorem own_cap0 {w : World} {base z n c : Nat} {e : TypeId} {A : Option Addr} {f : Nat → Value} (h : OwnZ w base e z A n c f) : A = none → c = 0 := by
  rintro rfl
  rcases h.2 with ⟨hv, _⟩ | ⟨g, cap, cur, hv, _⟩
  · injection hv with _ h1 h2
  · injection hv with h1; cases h1
theorem remI (m : Int) (_h0 : -9223372036854775808 ≤ m ∧ m ≤ 9223372036854775807) (w : World) : (binOp .rem 3 (.int .i64 m) (.int .i64 300)).run Tryd.prog w = .ok (.int .i64 (m.tmod 300)) w := by
  have h1 : -300 < m.tmod 300 := Int.lt_tmod_of_pos m (by omega)
  have h2 : m.tmod 300 < 300 := Int.tmod_lt_of_pos m (by omega)
  simp [go_sem]
  try omega
theorem remU (m c r : Nat) (hc : 0 < c) (h : m % c = r) (hm : m < 18446744073709551616) (w : World) : (binOp .rem 22 (.int .u64 (m : Int)) (.int .u64 (c : Int))).run Tryd.prog w = .ok (.int .u64 (r : Int)) w := by
  subst h
  have h2 : m % c < 18446744073709551616 := Nat.lt_of_le_of_lt (Nat.mod_le _ _) hm
  have h3 : (m : Int).tmod (c : Int) = ((m % c : Nat) : Int) := by rw [Int.tmod_eq_emod_of_nonneg (by omega)]; simp
  simp [go_sem, h3]
  try omega
section
variable {P : Program}
/-- One cell of row k is laid; the world is a letter. -/
theorem wpList_st1 {ops : Array Oper} {rest : List Oper} {o : Oper} {a : Act} {w w0 : World} {Q : Exit → Act → World → Prop} {rows : List RowSpec} (hgd : o.guard = none) (ty : TypeId) (x y : Operand) (ho : o.op = .store ty x y) (h : HS w0 w rows) (k : Nat) {b : Nat} {t : TypeId} {n : Nat} {f : Nat → Value} (hk : rows[k]? = some ⟨b, t, n, f⟩) (off : Nat) (v : Value)
    (hst : ∀ (w : World) (ad : Addr) (u : Value), w.cell? ad = some u → w.frozen? ad = false → (Instr.storeAt ty (.pointer (some ad)) v).run P w = .ok () (w.setCell ad v)) (hx : a.eval x = .pointer (some ⟨b, off, none⟩)) (hy : a.eval y = v) (hfit : off < n)
    (g : Nat → Value) (hg : ∀ j, j < n → (if j = off then v else f j) = g j)
    (hK : ∀ w', HS w0 w' (rows.set k ⟨b, t, n, g⟩) → w.grownBy w' (some b) → wpList P ops Q rest (a.put o.dst undef) w') : wpList P ops Q (o :: rest) a w :=
  wpList_plain hgd fun _ hK' => by
    have hrun := hst w ⟨b, off, none⟩ _ (h.cell k off hk hfit) (h.frozen k off hk)
    unfold Oper.wp execOp
    simp only [ho, hx, hy, Sem.run_bind, hrun, Result.andThen_ok, Sem.run_pure]
    refine hK' _ _ (hK _ ?_ (grown_setCell (World.grownBy.refl _ _) (.inl rfl) _))
    have h1 := (h.set k off hk v).congr k (g := g) (b := b) (t := t) (n := n) (f := fun j => if j = off then v else f j) (by
      obtain ⟨hk', _⟩ := List.getElem?_eq_some_iff.1 hk
      rw [List.getElem?_set]; simp [hk']) hg
    rwa [List.set_set] at h1
end
theorem stBool (v : Bool) (w : World) (ad : Addr) (u : Value) (h : w.cell? ad = some u) (hf : w.frozen? ad = false) : (Instr.storeAt 4 (.pointer (some ad)) (.bool v)).run Tryd.prog w = .ok () (w.setCell ad (.bool v)) := by
  simp [go_sem, h, hf]
theorem stU (m : Int) (w : World) (ad : Addr) (u : Value) (h : w.cell? ad = some u) (hf : w.frozen? ad = false) : (Instr.storeAt 22 (.pointer (some ad)) (.int .u64 m)).run Tryd.prog w = .ok () (w.setCell ad (.int .u64 m)) := by
  simp [go_sem, h, hf]
/-- Which places were taken to so far. -/
def seenN (s : Nat → Nat) (n j q : Nat) : Bool := (List.range j).any fun i => placeN s n i == q
theorem seen_no {s : Nat → Nat} {n j : Nat} (hj : j < n) : seenN s n j (placeN s n j) = false := by
  unfold seenN
  rw [List.any_eq_false]
  intro i hi
  have hi := List.mem_range.1 hi
  simp only [beq_iff_eq]
  exact fun e => by have := place_inj (by omega) hj e; omega
theorem seen_step (s : Nat → Nat) (n j q : Nat) : (if q = placeN s n j then Value.bool true else .bool (seenN s n j q)) = .bool (seenN s n (j + 1) q) := by
  unfold seenN
  rw [List.range_succ, List.any_append]
  by_cases h : q = placeN s n j
  · rw [if_pos h]; simp [h]
  · rw [if_neg h]
    have : ¬ placeN s n j = q := fun e => h e.symm
    simp [this]
end ShufLawOps
end Go.Proofs.YtjhgndnpihnidaaDoor
