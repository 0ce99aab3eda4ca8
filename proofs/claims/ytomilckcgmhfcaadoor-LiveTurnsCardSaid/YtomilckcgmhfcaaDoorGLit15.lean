/- Lemmas that the proof stands on. -/
import Derived.Test.YtomilckcgmhfcaaDoorGLit14
namespace Go.Proofs.YtomilckcgmhfcaaDoor
set_option maxRecDepth 40000
set_option maxHeartbeats 64000000
open Go.RowKit
namespace TreeApp
theorem zuq (vs : Array Value) (w : World) : (callFunc 80 vs).run Tryd.prog w = .ok (.enter 80 vs) w := by kernel_rfl
theorem zn6 (n : Nat) (g y : Nat → Nat) : ∀ i, i < (n + 1) * 32 → catF (n * 32) (u8v g) (u8v y) i = u8v (appN g n y) i := fun i _ => by
 simp only [catF, u8v, appN, catN]
 split <;> rfl
theorem lev0 {w : World} {base T n : Nat} {A : Option Addr} {v : TV} (h : TM w base T v) (hA : v.lA 0 = A) (hn : v.lm 0 = n) {c0 : Nat} (hc : v.lk 0 = c0) : OwnZ w base 24 32 A n c0 (u8v (v.g 0)) := by
 have h1 := h.lv 0 (Nat.zero_le _)
 rw [hA, hn, hc] at h1
 exact h1
theorem sub1 (n : Nat) (hn : n < 4611686018427387904) (w : World) : (binOp .sub 3 (.int .i64 ((n + 1 : Nat) : Int)) (.int .i64 1)).run Tryd.prog w = .ok (.int .i64 (n : Int)) w := by
 simp [go_sem, IntKind.wrap, IntKind.bits, IntKind.signed]
 omega
end TreeApp
open TreeFn TreeMark TreeGet TreeApp in
theorem zqr (v : TV) (base T n : Nat) (x y : Nat → Nat) (w : World) (h : TM w base T v) (hst : TSt v n x) (hlt0 : n < v.lim) (hy : ∀ q, y q < 256) :
 Calls Tryd.prog 86 #[tpV T, rootV y] w fun r w' => ∃ v', r = .returned (.int .i64 0) ∧ TM w' base T v' ∧ TStep w w' T v v' ∧ TSt v' (n + 1) (appN x n y) ∧ DirLe v v' n ∧ v'.H = v.H := by
 have H0 := Hd h
 have HT0 := Hd hst
 have HN := Hd hst.n0
 have HS0 := Hd (HS.nil w)
 have HLt0 := Hd hlt0
 have hn30 : n < 1073741824 := Nat.lt_of_lt_of_le hlt0 hst.lim
 have HY := Hd hy
 obtain ⟨lim, hlim⟩ : ∃ lim, v.lim = lim := ⟨_, rfl⟩
 have HLim := Hd hlim
 have hlt : n < lim := by omega
 obtain ⟨A0, hA⟩ : ∃ A0, v.lA 0 = A0 := ⟨_, rfl⟩
 have HA := Hd hA
 obtain ⟨c0, hc⟩ : ∃ c0, v.lk 0 = c0 := ⟨_, rfl⟩
 have HC := Hd hc
 obtain ⟨D, hD⟩ : ∃ D, v.D = D := ⟨_, rfl⟩
 have HD := Hd hD
 clear h hst hlim hlt0 hA hc hD hy
 go_enter Tryd.func86, Tryd.ntmps86
 go_upto_region 3 with (refine zaz rfl 24 _ 3 rfl rfl HS0.out 32 (u8v y) rfl ?_; intro b5 w4 hb5 hc5 hs; have HR4 := Hd (hs.row 0 rfl); have HB4 := Hd (hs.out (by simp; omega)); have hl5 : b5 < w4.heap.size := hs.lt 0 rfl; have HM4 := Hd (H0.out.below HB4.out); clear hs)
 refine zb3 (B := w4.heap.size) (w0 := w4) [sI (.pointer (some ⟨T, 0, none⟩)), sI (.int .i64 ((n : Nat) : Int)), sI (.pointer (some ⟨T, 0, none⟩)), sI (.pointer (some ⟨T, 0, none⟩)), sI (.pointer (some ⟨T, 0, none⟩)), sI (.int .i64 ((lim : Nat) : Int)), sI (.bool false), sI (.bool false)] (by kernel_rfl) (by kernel_rfl) rfl lR (Below.refl _ _) ⟨?_, ?_, ?_, ?_, ?_, ?_, ?_, ?_, trivial⟩ ?_
 ·exact (zaa _ rfl (.inl rfl) rfl)
 ·exact zby zuq rfl rfl (oT rfl) (fun w' hb => (zd6 v base T w' (HM4.out.below hb)).mono fun r w'' ⟨he, hw⟩ => ⟨_, by rw [he, HN.out], rfl, by subst hw; exact Below.refl _ _⟩)
 ·exact (zaa _ rfl (.inl rfl) rfl)
 ·exact zar _ rfl rfl (oT rfl)
 ·exact zal rfl rfl (oT rfl) (fun w => by simp [go_sem])
 ·exact zad rfl rfl (oT rfl) (fun w' hb => zcf w' _ _ .i64 _ (by rw [← HLim.out]; exact (HM4.out.below hb).c0) Ty3)
 ·exact za0 rfl rfl rfl (oT rfl) (oT rfl) (fun w => geI' n lim hlt w)
 ·exact (zaa _ rfl (.inr rfl) rfl)
 ·intro w' hb
  simp only [fin, sI, forall_eq]
  simp only [pcX]
  have HB6 := Hd (HB4.out.trans (hb.mono HB4.out.size))
  have HM6 := Hd (HM4.out.below hb)
  have HR6 := Hd (zaj HR4.out hb hl5)
  obtain ⟨w6, hw6⟩ : ∃ w6 : World, w6 = w' := ⟨_, rfl⟩
  subst hw6
  clear hb HM4 HR4 HB4
  go_upto_region 5 with fail
  go_cut [] from 16 to 29 (fun wx => ∃ (A8 : Option Addr) (c8 : Nat), TM wx base T { v with lA := fun j => if j = 0 then A8 else v.lA j, lm := fun j => if j = 0 then n + 1 else v.lm j, lk := fun j => if j = 0 then c8 else v.lk j, g := fun j => if j = 0 then appN (v.g 0) n y else v.g j } ∧ TStep w wx T v { v with lA := fun j => if j = 0 then A8 else v.lA j, lm := fun j => if j = 0 then n + 1 else v.lm j, lk := fun j => if j = 0 then c8 else v.lk j, g := fun j => if j = 0 then appN (v.g 0) n y else v.g j })
  case first =>
   refine zcu (n := 15) (by kernel_rfl) (by kernel_rfl) ?_
   have HMv0 : Hid (TM w6.drew base T v) := Hd (HM6.out.below ⟨rfl, rfl, rfl, Nat.le_refl _, fun _ _ => rfl⟩)
   have HRv0 : Hid (w6.drew.rowIs b5 24 32 (u8v y)) := Hd HR6.out
   have HBv0 : Hid (Below w.heap.size w w6.drew) := Hd ⟨HB6.out.os, HB6.out.tape, HB6.out.output, HB6.out.size, HB6.out.block⟩
   generalize w6.drew = wv at HMv0 HRv0 HBv0 ⊢
   have HMv := Hd HMv0.out
   have HRv := Hd HRv0.out
   clear HB6
   have HB6 := Hd HBv0.out
   clear HMv0 HRv0 HBv0 HM6 HR6
   refine zas (i := 0) (tpV T) rfl (by kernel_rfl) (by kernel_rfl) (by decide +kernel) rfl (fun _ _ _ h => h) (zce (.inl rfl) rfl) ?_
   simp only [pcX]
   refine zas (i := 4) (tpV T) rfl (by kernel_rfl) (by kernel_rfl) (by decide +kernel) rfl (fun _ _ _ h => h) (zce (.inl rfl) rfl) ?_
   simp only [pcX]
   refine zas (i := 1) (tpV T) rfl (by kernel_rfl) (by kernel_rfl) (by decide +kernel) rfl (fun _ _ _ h => h) (zcx rfl rfl) ?_
   simp only [pcX]
   refine zas (i := 5) (tpV T) rfl (by kernel_rfl) (by kernel_rfl) (by decide +kernel) rfl (fun _ _ _ h => h) (zcx rfl rfl) ?_
   simp only [pcX]
   refine zas (i := 2) (.pointer (some ⟨T, 2, none⟩)) rfl (by kernel_rfl) (by kernel_rfl) (by decide +kernel) rfl (fun _ _ _ h => h) (zbh rfl rfl (fun w => by simp [go_sem])) ?_
   simp only [pcX]
   refine zas (i := 6) (.pointer (some ⟨T, 2, none⟩)) rfl (by kernel_rfl) (by kernel_rfl) (by decide +kernel) rfl (fun _ _ _ h => h) (zbh rfl rfl (fun w => by simp [go_sem])) ?_
   simp only [pcX]
   refine zcq (i := 3) (j := 7) (k := 10) rfl rfl rfl (by decide +kernel) rfl rfl rfl (fun K h3 => ?_) (fun K h7 => ?_) (fun K h10 => ?_)
   repeat' (first
    | (revert h3; intro hK; refine zdd (.slice (some ⟨v.lb, 0, none⟩) (D + 1) v.lc) (by first | exact zan rfl rfl Ty134 (HMv.out.c2) (by first | (rw [← HD.out]; done) | (rw [← HD.out]; rfl)) | exact zan rfl rfl Ty134 ((HMv.out.rowD (r0 := 3) (by omega) (fun b hb => ⟨Nat.zero_le _, hb⟩) HG8.out).cell (show 2 < 5 by omega)) (by first | (rw [← HD.out]; done) | (rw [← HD.out]; rfl))) ?_; refine hK _ _ ?_; clear hK; simp only [pcX]; (try (refine zas (i := 13) (.pointer (some ⟨v.lb, 0, none⟩)) rfl (by kernel_rfl) (by kernel_rfl) (by decide +kernel) rfl (fun _ _ _ h => h) (zbb rfl rfl rfl (fun w => idx0 w _ _ _ (by omega))) ?_; simp only [pcX])); (first | refine zah (i := 10) rfl (by decide +kernel) rfl (fun K h10 => ?_) | refine zah (i := 11) rfl (by decide +kernel) rfl (fun K h11 => ?_) | refine zah (i := 12) rfl (by decide +kernel) rfl (fun K h12 => ?_) | refine zah (i := 14) rfl (by decide +kernel) rfl (fun K h14 => ?_) | refine zah (i := 9) rfl (by decide +kernel) rfl (fun K h9 => ?_) | refine zah (i := 7) rfl (by decide +kernel) rfl (fun K h7 => ?_) | refine zay (i := 7) (j := 10) rfl rfl (by decide +kernel) rfl rfl (fun K h7 => ?_) (fun K h10 => ?_) | refine zay (i := 9) (j := 10) rfl rfl (by decide +kernel) rfl rfl (fun K h9 => ?_) (fun K h10 => ?_) | refine zay (i := 9) (j := 11) rfl rfl (by decide +kernel) rfl rfl (fun K h9 => ?_) (fun K h11 => ?_) | refine zay (i := 7) (j := 11) rfl rfl (by decide +kernel) rfl rfl (fun K h7 => ?_) (fun K h11 => ?_)))
    | (revert h7; intro hK; refine zdd (.slice (some ⟨v.lb, 0, none⟩) (D + 1) v.lc) (by first | exact zan rfl rfl Ty134 (HMv.out.c2) (by first | (rw [← HD.out]; done) | (rw [← HD.out]; rfl)) | exact zan rfl rfl Ty134 ((HMv.out.rowD (r0 := 3) (by omega) (fun b hb => ⟨Nat.zero_le _, hb⟩) HG8.out).cell (show 2 < 5 by omega)) (by first | (rw [← HD.out]; done) | (rw [← HD.out]; rfl))) ?_; refine hK _ _ ?_; clear hK; simp only [pcX]; refine zas (i := 8) (.pointer (some ⟨v.lb, 0, none⟩)) rfl (by kernel_rfl) (by kernel_rfl) (by decide +kernel) rfl (fun _ _ _ h => h) (zbb rfl rfl rfl (fun w => idx0 w _ _ _ (by omega))) ?_; simp only [pcX]; (first | refine zah (i := 9) rfl (by decide +kernel) rfl (fun K h9 => ?_) | refine zay (i := 9) (j := 10) rfl rfl (by decide +kernel) rfl rfl (fun K h9 => ?_) (fun K h10 => ?_) | refine zay (i := 9) (j := 11) rfl rfl (by decide +kernel) rfl rfl (fun K h9 => ?_) (fun K h11 => ?_) | refine zay (i := 3) (j := 9) rfl rfl (by decide +kernel) rfl rfl (fun K h3 => ?_) (fun K h9 => ?_) | refine zcq (i := 3) (j := 9) (k := 10) rfl rfl rfl (by decide +kernel) rfl rfl rfl (fun K h3 => ?_) (fun K h9 => ?_) (fun K h10 => ?_) | refine zcq (i := 3) (j := 9) (k := 11) rfl rfl rfl (by decide +kernel) rfl rfl rfl (fun K h3 => ?_) (fun K h9 => ?_) (fun K h11 => ?_)))
    | (revert h9; intro hK; refine zdd (.slice A0 n c0) (zan rfl rfl Ty32 (HMv.out.level (k := 0) (Nat.zero_le _)) (by rw [HA.out, HN.out, HC.out])) ?_; refine hK _ _ ?_; clear hK; simp only [pcX]; (first | refine zah (i := 10) rfl (by decide +kernel) rfl (fun K h10 => ?_) | refine zah (i := 11) rfl (by decide +kernel) rfl (fun K h11 => ?_) | refine zah (i := 12) rfl (by decide +kernel) rfl (fun K h12 => ?_) | refine zay (i := 3) (j := 10) rfl rfl (by decide +kernel) rfl rfl (fun K h3 => ?_) (fun K h10 => ?_) | refine zay (i := 3) (j := 11) rfl rfl (by decide +kernel) rfl rfl (fun K h3 => ?_) (fun K h11 => ?_) | refine zay (i := 3) (j := 12) rfl rfl (by decide +kernel) rfl rfl (fun K h3 => ?_) (fun K h12 => ?_)))
    | (revert h10; intro hK; refine zdd (rootV y) (zmh 32 (u8v y) rfl rfl (fun q hq => by rw [zai]; exact HRv.out.cell hq) Ty24 rfl s24) ?_; refine hK _ _ ?_; clear hK; simp only [pcX]; (first | refine zah (i := 11) rfl (by decide +kernel) rfl (fun K h11 => ?_) | refine zay (i := 9) (j := 11) rfl rfl (by decide +kernel) rfl rfl (fun K h9 => ?_) (fun K h11 => ?_) | refine zay (i := 7) (j := 11) rfl rfl (by decide +kernel) rfl rfl (fun K h7 => ?_) (fun K h11 => ?_) | refine zay (i := 3) (j := 11) rfl rfl (by decide +kernel) rfl rfl (fun K h3 => ?_) (fun K h11 => ?_) | refine zcq (i := 3) (j := 9) (k := 11) rfl rfl rfl (by decide +kernel) rfl rfl rfl (fun K h3 => ?_) (fun K h9 => ?_) (fun K h11 => ?_) | refine zcq (i := 3) (j := 7) (k := 11) rfl rfl rfl (by decide +kernel) rfl rfl rfl (fun K h3 => ?_) (fun K h7 => ?_) (fun K h11 => ?_)))
    | (revert h11; intro hK; refine zci Ty32 s24 (by omega) (by omega) z24 _ rfl (u8v y) rfl (HS.nil _) ?_; intro b7 w7 hb7 hc7 hs; have HR7 := Hd (hs.row 0 rfl); have HB7 := Hd (hs.out (by simp; omega)); have HM7 := Hd (HMv.out.below HB7.out); have HR5 := Hd (zaj HRv.out HB7.out HRv.out.lt); clear hs HMv HRv; have HMv := Hd HM7.out; have HRv := Hd HR5.out; clear HM7 HR5; refine hK _ _ ?_; clear hK; simp only [pcX]; (first | refine zah (i := 12) rfl (by decide +kernel) rfl (fun K h12 => ?_) | refine zah (i := 9) rfl (by decide +kernel) rfl (fun K h9 => ?_) | refine zah (i := 7) rfl (by decide +kernel) rfl (fun K h7 => ?_) | refine zay (i := 3) (j := 12) rfl rfl (by decide +kernel) rfl rfl (fun K h3 => ?_) (fun K h12 => ?_) | refine zay (i := 3) (j := 9) rfl rfl (by decide +kernel) rfl rfl (fun K h3 => ?_) (fun K h9 => ?_) | refine zay (i := 3) (j := 7) rfl rfl (by decide +kernel) rfl rfl (fun K h3 => ?_) (fun K h7 => ?_)))
    | (revert h12; intro hK; refine zdy _ (.tmp 25) (.tmp 27) 32 base i24 Ty32 (by rfl) (by omega) rfl (n + 1) (u8v (appN (v.g 0) n y)) rfl rfl (lev0 HMv.out HA.out HN.out HC.out) (Rd.of_row (n := 1 * 32) HR7.out lR HR7.out.lt) (fun _ _ => rfl) rfl (zn6 n (v.g 0) y) ⟨by omega, by omega⟩ HMv.out.base_le ?_; intro A8 c8 w8 ho hg ha; have hg0 : w7.grownBy w8 ((v.lA 0).map (·.block)) := (by rw [HA.out]; exact hg); have HG8 := Hd hg0; have HO8 := Hd ho; have HA8 := Hd (show ∀ b, OnA A8 b → OnA (v.lA 0) b ∨ w7.heap.size ≤ b by rw [HA.out]; exact zgp ha); clear ho hg ha hg0; refine hK _ _ ?_; clear hK; simp only [pcX]; (try (refine zas (i := 13) (.pointer (some ⟨v.lb, 0, none⟩)) rfl (by kernel_rfl) (by kernel_rfl) (by decide +kernel) rfl (fun _ _ _ h => h) (zbb rfl rfl rfl (fun w => idx0 w _ _ _ (by omega))) ?_; simp only [pcX])); (first | refine zah (i := 14) rfl (by decide +kernel) rfl (fun K h14 => ?_) | refine zah (i := 3) rfl (by decide +kernel) rfl (fun K h3 => ?_)))
    | (revert h14; intro hK; obtain ⟨F, hF, _⟩ := HMv.out.lrow; have hrow := hF.of_block ((HMv.out.other2 (r0 := 3) (A := v.lA 0) (fun b hb => ⟨Nat.zero_le _, hb⟩) HG8.out).1 1 v.lb rfl (by omega)); have hcap := HMv.out.lcap; refine zmg 32 (.tmp 29) (.tmp 28) rfl hrow 0 (by omega) (.slice A8 (n + 1) c8) (StCopy.stSlR _ _ _) rfl rfl ?_; have HM9 := Hd (HMv.out.setL (Nat.zero_le _) HG8.out HO8.out HA8.out); have HS9 := Hd ((TStep.refl (T := T) (v := v) (HB6.out.trans (HB7.out.mono HB6.out.size))).trans (TStep.ofL (T := T) (v := v) (Nat.zero_le _) (n' := n + 1) (c' := c8) (g' := appN (v.g 0) n y) HG8.out HA8.out)); clear hrow hF HMv HG8 HO8 HA8 HB7; refine hK _ _ ?_; clear hK; simp only [Act.put]; (refine wpAny_done (by kernel_rfl) ?_ _; go_wp2_with fail; go_meet; case rel => exact ⟨A8, c8, HM9.out, HS9.out⟩)))
  case rest =>
   obtain ⟨A8, c8, hm, hs⟩ := hcut
   obtain ⟨v1, hv1⟩ : ∃ v1, v1 = { v with lA := fun j => if j = 0 then A8 else v.lA j, lm := fun j => if j = 0 then n + 1 else v.lm j, lk := fun j => if j = 0 then c8 else v.lk j, g := fun j => if j = 0 then appN (v.g 0) n y else v.g j } := ⟨_, rfl⟩
   rw [← hv1] at hm hs
   have HM8 := Hd hm
   have HS8 := Hd hs
   have HV1 := Hd hv1
   have HDw := Hd (show ∀ q, q < v1.dn → v1.dw q < 18446744073709551616 by rw [hv1]; exact HT0.out.dw)
   have HL1 := Hd (show v1.lm 0 = n + 1 by rw [hv1]; rfl)
   clear hm hs hv1
   go_wp2_with (first
    | (go_at_call 80; refine (zd6 v1 base T _ HM8.out).mono ?_; rintro r w9 ⟨rfl, rfl⟩; rw [HL1.out])
    | (refine zab rfl 33 rfl (.int .i64 (n : Int)) ?_ ?_; (· exact za1 rfl rfl rfl rfl (fun w => sub1 n (by omega) w) _))
    | (go_at_call 98; refine (zkz v1 base T n (by omega) _ HM8.out HDw.out (by omega)).mono ?_; rintro r w9 ⟨A', n', c', dw', rfl, hm, hst, hdw, hn', hdir⟩; have HM9 := Hd hm; have HS9 := Hd hst; have HDn := Hd (And.intro hdw (And.intro hn' hdir)); clear hm hst hdw hn' hdir))
   go_ret
   have hv1 := HV1.out
   have hm := HM9.out
   have hs := HS8.out.trans HS9.out
   obtain ⟨hdw, hn', hdir⟩ := HDn.out
   clear HM8 HM9 HS8 HS9 HDw HDn HV1 HL1
   subst hv1
   refine ⟨_, rfl, hm, hs, HT0.out.app HLt0.out rfl rfl rfl (fun d hd => ?_) (fun i hi => ?_) (fun d hd => ?_) (fun d i => ?_) hdw hn' hdir, DirLe.of hdir, rfl⟩
   ·show (if d = 0 then n + 1 else v.lm d) = _
    rw [if_neg hd]
   ·show (if (0 : Nat) = 0 then appN (v.g 0) n y else v.g 0) i = _
    rw [if_pos rfl]
    unfold appN catN
    split
    ·rename_i h1; exact HT0.out.x0 i h1
    ·rfl
   ·show (if d = 0 then appN (v.g 0) n y else v.g d) = _
    rw [if_neg hd]
   ·show (if d = 0 then appN (v.g 0) n y else v.g d) i < 256
    split
    ·unfold appN catN; split
     ·exact HT0.out.g8 _ _
     ·exact HY.out _
    ·exact HT0.out.g8 _ _
def newF (l D lb : Nat) (zA : Option Addr) (d zc : Nat) : Nat → Value := fun i => if i = 0 then .int .i64 (l : Int) else if i = 1 then .slice zA d zc else if i = 2 then .slice (some ⟨lb, 0, none⟩) (D + 1) (D + 1) else if i = 3 then .slice none 0 0 else .int .i64 0
namespace TreeNew
theorem zoy (l : Int) (lb n c : Nat) : Tryd.prog.built 136 [(0, .int .i64 l), (2, .slice (some ⟨lb, 0, none⟩) n c)] = some #[.int .i64 l, .slice none 0 0, .slice (some ⟨lb, 0, none⟩) n c, .slice none 0 0, .int .i64 0] := by kernel_rfl
theorem zur (l D lb : Nat) : (#[.int .i64 (l : Int), .slice none 0 0, .slice (some ⟨lb, 0, none⟩) (D + 1) (D + 1), .slice none 0 0, .int .i64 0] : Array Value) = arr 5 (newF l D lb none 0 0) := by
 unfold arr newF
 rfl
theorem zsf (l D lb : Nat) (A A' : Option Addr) (d d' c c' : Nat) : ∀ j, j < 5 → (if j = 1 then .slice A' d' c' else newF l D lb A d c j) = newF l D lb A' d' c' j := fun j _ => by
 unfold newF
 by_cases h : j = 1
 ·subst h; rfl
 ·simp only [if_neg h]
theorem znl (n : Nat) : ∀ i, i < n * 1 → (madeCells (Value.slice none 0 0).cells (n * 1))[i]? = some ((fun _ => Value.slice none 0 0 : Nat → Value) i) := fun i hi => by
 have hi' : i < n := by omega
 simp [madeCells, Value.cells, hi', Nat.mod_one]
theorem zus (d : Nat) : ∀ i, i < (d + 1) * 32 → catF (d * 32) (u8v zrsN) (u8v (zrN d)) i = u8v zrsN i := fun i hi => by
 simp only [catF, u8v]
 by_cases h : i < d * 32
 ·rw [if_pos h]
 ·rw [if_neg h]
  unfold zrsN
  rw [show i / 32 = d by omega, show i % 32 = i - d * 32 by omega]
theorem zut (l : Nat) (h : 1 ≤ l) (hl : l ≤ 18446744073709551616) : Lib.bitLen (l - 1) = dep l := by
 rcases Nat.lt_or_ge l 2 with h1 | h1
 ·obtain rfl : l = 1 := by omega
  rfl
 ·exact zjq l h1 hl
theorem gtI' (a b : Nat) (h : a ≤ b) (w : World) : (binOp .gtr 3 (.int .i64 (a : Int)) (.int .i64 (b : Int))).run Tryd.prog w = .ok (.bool false) w := by
 simp [go_sem]; omega
theorem ltI1 (a b : Nat) (h : b ≤ a) (w : World) : (binOp .lss 3 (.int .i64 (a : Int)) (.int .i64 (b : Int))).run Tryd.prog w = .ok (.bool false) w := by
 simp [go_sem]; omega
theorem addI (d : Nat) (h : d < 4611686018427387904) (w : World) : (binOp .add 3 (.int .i64 (d : Int)) (.int .i64 1)).run Tryd.prog w = .ok (.int .i64 ((d + 1 : Nat) : Int)) w := by
 simp [go_sem, IntKind.wrap, IntKind.bits, IntKind.signed]; omega
theorem subI (l m : Nat) (h : l = m + 1) (hl : l < 4611686018427387904) (w : World) : (binOp .sub 3 (.int .i64 (l : Int)) (.int .i64 1)).run Tryd.prog w = .ok (.int .i64 (m : Int)) w := by
 subst h
 simp [go_sem, IntKind.wrap, IntKind.bits, IntKind.signed]; omega
theorem zkk {P : Program} {o : Oper} {a : Act} {w w0 : World} {K : Act → World → Prop} {Q : Exit → Act → World → Prop} {rows : List RowSpec} (ty : TypeId) (x y : Operand) (ho : o.op = .store ty x y) (h : HS w0 w rows) (k : Nat) {b : Nat} {t : TypeId} {n : Nat} {f : Nat → Value} (hk : rows[k]? = some ⟨b, t, n, f⟩) (off : Nat) (v : Value)
    (hst : ∀ (w : World) (ad : Addr) (u : Value), w.cell? ad = some u → w.frozen? ad = false → (Instr.storeAt ty (.pointer (some ad)) v).run P w = .ok () (w.setCell ad v)) (hx : a.eval x = .pointer (some ⟨b, off, none⟩)) (hy : a.eval y = v) (hfit : off < n) (g : Nat → Value) (hg : ∀ j, j < n → (if j = off then v else f j) = g j)
    (hK : ∀ w', HS w0 w' (rows.set k ⟨b, t, n, g⟩) → w.grownBy w' (some b) → K (a.put o.dst undef) w') : o.wp P a w K Q := by
 have hrun := hst w ⟨b, off, none⟩ _ (h.cell k off hk hfit) (h.frozen k off hk)
 unfold Oper.wp execOp
 simp only [ho, hx, hy, Sem.run_bind, hrun, Result.andThen_ok, Sem.run_pure]
 refine hK _ ?_ (zbv (World.grownBy.refl _ _) (.inl rfl) _)
 have h1 := (h.set k off hk v).congr k (g := g) (b := b) (t := t) (n := n) (f := fun j => if j = off then v else f j) (by
  obtain ⟨hk', _⟩ := List.getElem?_eq_some_iff.1 hk
  rw [List.getElem?_set]; simp [hk']) hg
 rwa [List.set_set] at h1
theorem zsg {w : World} {B c d : Nat} {A : Option Addr} {f : Nat → Value} (h : OwnZ w B 24 32 A (d + 1) c f) (_h : True) : B ≤ w.heap.size := by
 obtain ⟨b, e⟩ := zdv h (by omega)
 have := h.base_le _ e
 simp only at this
 omega
def newV (l D : Nat) (zA : Option Addr) (zc lb : Nat) : TV := ⟨l, D, zA, zc, lb, D + 1, none, 0, 0, fun _ => 0, 0, fun _ => none, fun _ => 0, fun _ => 0, fun _ _ => 0⟩
theorem zxg : ∀ d, cnt d 0 = 0 := by
 intro d
 induction d with
 | zero => rfl
 | succ d ih => rw [cnt, ih]
theorem zwh (l D : Nat) (zA : Option Addr) (zc lb : Nat) (h : l ≤ 1073741824) (hd : l ≤ 2 ^ D) (h30 : D ≤ 30) : TSt (newV l D zA zc lb) 0 (fun _ => 0) where
 n0 := rfl
 x0 := fun i hi => by omega
 lev := fun d _ => ⟨Nat.zero_le _, fun j hj => by rw [zxg] at hj; omega⟩
 nle := Nat.zero_le _
 lim := h
 dep := hd
 D30 := h30
 dw := fun k hk => by have : k < 0 := hk; omega
 dn := by show 0 * 64 < 0 + 64; omega
 g8 := fun _ _ => by show 0 < 256; omega
 tn := fun a ha => by simp [newV, dirB] at ha
theorem zwi {w w' w5 : World} {l D T lb zc : Nat} {zA : Option Addr} (hT : T < w5.heap.size) (hl : lb < w5.heap.size) (h5 : w.heap.size ≤ w5.heap.size) (hTw : w.heap.size ≤ T) (hne : T ≠ lb) (hs : HS w w' [⟨T, 136, 5, newF l D lb zA (D + 1) zc⟩, ⟨lb, 32, (D + 1) * 1, fun _ => .slice none 0 0⟩]) (hlw : w.heap.size ≤ lb)
    (ho : OwnZ w' w5.heap.size 24 32 zA (D + 1) zc (u8v zrsN)) : TM w' w.heap.size T (newV l D zA zc lb) where
 baseT := hTw
 row := (hs.row 0 rfl).congr (fun i _ => rfl)
 zr := ho.rd
 zb := fun b hb => lT h5 (ho.on hb).1
 baseL := hlw
 lrow := ⟨fun _ => .slice none 0 0, by have h := hs.row 1 rfl; rw [Nat.mul_one] at h; exact h, fun _ _ => rfl⟩
 lcap := Nat.le_refl _
 lv := fun _ _ => OwnZ.nil _ _ _ _ _
 dr := OwnZ.nil _ _ _ _ _
 apart := by
  have key : ∀ r b, TV.role (newV l D zA zc lb) T r b → (r = 0 ∧ b = T) ∨ (r = 1 ∧ b = lb) := fun r b hr => by
   match r, hr with
   | 0, hr => exact .inl ⟨rfl, hr⟩
   | 1, hr => exact .inr ⟨rfl, hr⟩
   | 2, hr => obtain ⟨ad, e, _⟩ := hr; cases e
   | k + 3, hr => obtain ⟨_, ad, e, _⟩ := hr; cases e
  intro r r' b h1 h2
  rcases key r b h1 with ⟨e1, e2⟩ | ⟨e1, e2⟩ <;> rcases key r' b h2 with ⟨e3, e4⟩ | ⟨e3, e4⟩
  ·omega
  ·exact absurd (e2.symm.trans e4) hne
  ·exact absurd (e4.symm.trans e2) hne
  ·omega
 zapart := by
  rintro b hb ⟨r, hr⟩
  have h1 := (ho.on hb).1
  match r, hr with
  | 0, hr => have : b = T := hr; omega
  | 1, hr => have : b = lb := hr; omega
  | 2, hr => obtain ⟨ad, e, _⟩ := hr; cases e
  | k + 3, hr => obtain ⟨_, ad, e, _⟩ := hr; cases e
end TreeNew
open MerkleFn TreeMark TreeNew in
theorem zfi (l : Nat) (h1 : 1 ≤ l) (h2 : l ≤ 1073741824) (w : World) (hp : ShaPkg w) :
 Calls Tryd.prog 49 #[.int .i64 (l : Int)] w fun r w' => ∃ (T : Nat) (v : TV), r = .returned (tpV T) ∧ TM w' w.heap.size T v ∧ TSt v 0 (fun _ => 0) ∧ v.lim = l ∧ v.H = 0 ∧ v.D = dep l ∧ (∀ a, dirB v.dn v.dw a = false) ∧ Below w.heap.size w w' := by
 have HP := Hd hp
 have HS0 := Hd (HS.nil w)
 obtain ⟨D, hD⟩ : ∃ D, D = dep l := ⟨_, rfl⟩
 have hD30 : D ≤ 30 := by rw [hD]; exact zd4 (by rw [show (2 : Nat) ^ 30 = 1073741824 by decide]; exact h2)
 have HDd := Hd hD
 obtain ⟨m, hm⟩ : ∃ m, l = m + 1 := ⟨l - 1, by omega⟩
 have HLen := Hd (show Lib.bitLen m = D by rw [hD, ← zut l h1 (by omega), hm, Nat.add_sub_cancel])
 have HMm := Hd hm
 have hml : m < l := by omega
 clear hp hD hm
 go_enter Tryd.func49, Tryd.ntmps49
 go_wp2_with (first
  | (refine zab rfl 9 rfl (.bool false) ?_ ?_; (· exact za1 rfl rfl rfl rfl (fun w => ltI1 l 1 h1 w) _))
  | (refine zct rfl rfl rfl 12 rfl (.bool false) ?_ ?_; (· exact za1 rfl rfl rfl rfl (fun w => gtI' l 1073741824 h2 w) _))
  | (refine zab rfl 15 rfl (.int .i64 (m : Int)) ?_ ?_; (· exact za1 rfl rfl rfl rfl (fun w => subI l m HMm.out (by omega) w) _))
  | (refine zab rfl 16 rfl (.int .u64 (m : Int)) ?_ ?_; (· exact zdc rfl rfl (fun w => TreeRef.cvu m (by omega) w) _))
  | (go_at_call 78; refine (zl7 m (by omega) _).mono ?_; rintro e w2 ⟨rfl, hw2⟩; rw [hw2, HLen.out]; clear hw2 w2)
  | (refine zab rfl 20 rfl (.int .i64 ((D + 1 : Nat) : Int)) ?_ ?_; (· exact za1 rfl rfl rfl rfl (fun w => addI D (by omega) w) _))
  | (refine zd5 rfl 134 (e := 32) (z := .slice none 0 0) (k := 1) (bytes := 24) Ty134 (by kernel_rfl) (.tmp 20) (.tmp 20) rfl (D + 1) rfl rfl (fun _ => .slice none 0 0) (znl (D + 1)) (by omega) (by omega) HS0.out ?_; intro lb w3 hlb hlc hs; have HS3 := Hd hs; clear hs)
  | (refine zbx rfl 136 #[(0, .tmp 18), (2, .tmp 21)] rfl [(0, .int .i64 (l : Int)), (2, .slice (some ⟨lb, 0, none⟩) (D + 1) (D + 1))] rfl (arr 5 (newF l D lb none 0 0)) (by rw [← zur]; exact zoy _ _ _ _) ?_)
  | (refine zaz rfl 136 _ 23 rfl rfl HS3.out 5 (newF l D lb none 0 0) rfl ?_; intro T w5 hT5 hc5 hs; have HS5 := Hd hs; have hTl : T < w5.heap.size := hs.lt 0 rfl; have hlbl : lb < w5.heap.size := hs.lt 1 rfl; have hTlb : lb < T := Nat.lt_of_lt_of_le (HS3.out.lt 0 rfl) hc5; have hz5 : w.heap.size ≤ w5.heap.size := hs.size; clear hs)
  | (refine zab rfl 25 rfl (.int .i64 ((D + 1 : Nat) : Int)) ?_ ?_; (· exact za1 rfl rfl rfl rfl (fun w => addI D (by omega) w) _)))
 go_loopw [26] (fun i wr => ∃ (d : Nat) (zA : Option Addr) (zc : Nat), i = .int .i64 (d : Int) ∧ d ≤ D + 1 ∧ HS w wr [⟨T, 136, 5, newF l D lb zA d zc⟩, ⟨lb, 32, (D + 1) * 1, fun _ => .slice none 0 0⟩] ∧ OwnZ wr w5.heap.size 24 32 zA d zc (u8v zrsN) ∧ w5.heap.size ≤ wr.heap.size) (fun i _ => D + 1 - (intOf i).toNat)
 case atStart => exact ⟨0, none, 0, rfl, by omega, HS5.out, OwnZ.nil _ _ _ _ _, Nat.le_refl _⟩
 case round =>
  clear HS5 HS3 HS0
  obtain ⟨d, zA, zc, rfl, hd, hs, ho, hsz⟩ := hrel
  have HSq := Hd hs
  have HZq := Hd ho
  clear hs ho
  obtain ⟨wo, rfl⟩ : ∃ wo : World, wo = wr := ⟨_, rfl⟩
  by_cases hdn : d < D + 1
  ·have HN := Hd (HS.nil wo)
   go_upto_region 9 with (first
    | (go_at_call 79; refine (zt6 d (by omega) _ (HP.out.below (HSq.out.out (by simp; omega)))).mono ?_; rintro r w6 ⟨rfl, hb⟩; have HN6 := Hd (HN.out.below hb); clear hb)
    | (refine zac rfl 24 6 rfl rfl HN6.out _ z24 32 (u8v fun _ => 0) n24 f24 ?_; intro b6 w7 hb6 hc6 hs; have HN7 := Hd hs; clear hs)
    | (refine zaf rfl 24 (.tmp 6) (.tmp 32) rfl HN7.out 0 rfl (u8v (zrN d)) rfl rfl (by kernel_rfl) (fun _ _ => rfl) ?_; intro wx hs; have HNx := Hd hs; have HBx := Hd (hs.out (by simp; omega)); clear hs))
   have HSx := Hd (HSq.out.below HBx.out)
   have HZx := Hd (HZq.out.all HBx.out)
   have HRx := Hd (HNx.out.row 0 rfl)
   have hszx := HBx.out.size
   clear HNx HN7 HN6 HN HSq HZq HBx
   refine zcu (n := 11) (by kernel_rfl) (by kernel_rfl) ?_
   have HSv0 := Hd HSx.out.drew
   have HZv0 : Hid (OwnZ wx.drew w5.heap.size 24 32 zA d zc (u8v zrsN)) := Hd HZx.out
   have HRv0 : Hid (wx.drew.rowIs b6 24 32 (u8v (zrN d))) := Hd HRx.out
   have hszv : wo.heap.size ≤ wx.drew.heap.size := hszx
   generalize wx.drew = wv at HSv0 HZv0 HRv0 hszv ⊢
   have HSv := Hd HSv0.out
   have HZv := Hd HZv0.out
   have HRv := Hd HRv0.out
   clear HSv0 HZv0 HRv0 HSx HZx HRx hszx
   refine zas (i := 0) (tpV T) rfl (by kernel_rfl) (by kernel_rfl) (by decide +kernel) rfl (fun _ _ _ h => h) (zce (.inl rfl) rfl) ?_
   simp only [pcX]
   refine zas (i := 1) (tpV T) rfl (by kernel_rfl) (by kernel_rfl) (by decide +kernel) rfl (fun _ _ _ h => h) (zce (.inl rfl) rfl) ?_
   simp only [pcX]
   refine zas (i := 2) (tpV T) rfl (by kernel_rfl) (by kernel_rfl) (by decide +kernel) rfl (fun _ _ _ h => h) (zcx rfl rfl) ?_
   simp only [pcX]
   refine zas (i := 3) (.pointer (some ⟨T, 1, none⟩)) rfl (by kernel_rfl) (by kernel_rfl) (by decide +kernel) rfl (fun _ _ _ h => h) (zbh rfl rfl (fun w => by simp [go_sem])) ?_
   simp only [pcX]
   refine zay (i := 4) (j := 5) rfl rfl (by decide +kernel) rfl rfl (fun K h4 => ?_) (fun K h5 => ?_)
   repeat' (first
    | (revert h4; intro hK; refine zdd (.slice zA d zc) (zan rfl rfl Ty32 (HSv.out.cell 0 1 rfl (show 1 < 5 by omega)) rfl) ?_; refine hK _ _ ?_; clear hK; simp only [pcX]; (first | refine zah (i := 5) rfl (by decide +kernel) rfl (fun K h5 => ?_) | refine zah (i := 6) rfl (by decide +kernel) rfl (fun K h6 => ?_) | refine zah (i := 7) rfl (by decide +kernel) rfl (fun K h7 => ?_)))
    | (revert h5; intro hK; refine zdd (rootV (zrN d)) (zmh 32 (u8v (zrN d)) rfl rfl (fun q hq => by rw [zai]; exact HRv.out.cell hq) Ty24 rfl s24) ?_; refine hK _ _ ?_; clear hK; simp only [pcX]; (first | refine zah (i := 6) rfl (by decide +kernel) rfl (fun K h6 => ?_) | refine zay (i := 4) (j := 6) rfl rfl (by decide +kernel) rfl rfl (fun K h4 => ?_) (fun K h6 => ?_)))
    | (revert h6; intro hK; refine zci Ty32 s24 (by omega) (by omega) z24 _ rfl (u8v (zrN d)) rfl (HS.nil _) ?_; intro b7 w7 hb7 hc7 hs; have HR7 := Hd (hs.row 0 rfl); have HB7 := Hd (hs.out (by simp; omega)); have HS7 := Hd (HSv.out.below HB7.out); have HZ7 := Hd (HZv.out.all HB7.out); clear hs HSv HZv; have HSv := Hd HS7.out; have HZv := Hd HZ7.out; clear HS7 HZ7; refine hK _ _ ?_; clear hK; simp only [pcX]; (first | refine zah (i := 7) rfl (by decide +kernel) rfl (fun K h7 => ?_) | refine zah (i := 4) rfl (by decide +kernel) rfl (fun K h4 => ?_)))
    | (revert h7; intro hK; refine zdy _ (.tmp 38) (.tmp 40) 32 w5.heap.size i24 Ty32 (by rfl) (by omega) rfl (d + 1) (u8v zrsN) rfl rfl HZv.out (Rd.of_row (n := 1 * 32) HR7.out lR HR7.out.lt) (fun _ _ => rfl) rfl (zus d) ⟨by omega, by omega⟩ (by have := HB7.out.size; omega) ?_; intro A8 c8 w8 ho hg ha; have HZ8 := Hd ho; have HS8 := Hd (HSv.out.appO hg (B := w5.heap.size) (fun ad e => (HZv.out.base_le ad e).1) (by simp; omega)); clear ho hg ha HSv; have HSv := Hd HS8.out; refine hK _ _ ?_; clear hK; simp only [pcX]; refine zas (i := 8) (tpV T) rfl (by kernel_rfl) (by kernel_rfl) (by decide +kernel) rfl (fun _ _ _ h => h) (zcx rfl rfl) ?_; simp only [pcX]; refine zas (i := 9) (.pointer (some ⟨T, 1, none⟩)) rfl (by kernel_rfl) (by kernel_rfl) (by decide +kernel) rfl (fun _ _ _ h => h) (zbh rfl rfl (fun w => by simp [go_sem])) ?_; simp only [pcX]; refine zah (i := 10) rfl (by decide +kernel) rfl (fun K h10 => ?_))
    | (revert h10; intro hK; refine zkk 32 (.tmp 43) (.tmp 41) rfl HSv.out 0 rfl 1 (.slice A8 (d + 1) c8) (StCopy.stSlR _ _ _) rfl rfl (show 1 < 5 by omega) (newF l D lb A8 (d + 1) c8) (zsf l D lb _ _ _ _ _ _) ?_; intro w9 hs hg; have HS9 := Hd hs; have HZ9 := Hd (HZ8.out.kept hg (fun ad e => by (have := (HZ8.out.base_le ad e).1; intro e2; injection e2 with e2; omega))); clear hs hg; refine hK _ _ ?_; clear hK; simp only [Act.put]; (refine wpAny_done (by kernel_rfl) ?_ _; have hsz9 := HS9.out.size; clear HS8 HZ8 HSv HZv HR7; go_wp2_with fail; go_roundw; (case rel => exact ⟨d + 1, A8, c8, by go_num, by omega, HS9.out, HZ9.out, zsg HZ9.out trivial⟩); (case measure => simp [intOf]; omega))))
  ·obtain rfl : d = D + 1 := by omega
   go_wp2_with fail
   go_ret
   exact ⟨T, newV l D zA zc lb, rfl, zwi hTl hlbl hz5 hT5 (fun e => by have := hTlb; omega) HSq.out hlb HZq.out, zwh l D zA zc lb h2 (by rw [HDd.out]; exact zb5 l) hD30, rfl, rfl, HDd.out, fun a => by simp [newV, dirB], HSq.out.out (by simp; omega)⟩
end Go.Proofs.YtomilckcgmhfcaaDoor
