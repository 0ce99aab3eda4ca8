/- A part of what the proofs stand on: ShufList, ShufSame, ShufAwake, OwnNew. -/
import Derived.Test.YtjmbgdldnnmipaaDoorGShu8
import Derived.Test.YtjmbgdldnnmipaaDoorGShu16
import Derived.Test.YtjmbgdldnnmipaaDoorGShu15
import Derived.Test.YtjmbgdldnnmipaaDoorGShu7
import Derived.Test.YtjmbgdldnnmipaaDoorGShu6
/- shuf.List. (Printed by a program of mine.) -/
namespace Go.Proofs.YtjmbgdldnnmipaaDoor
set_option maxRecDepth 40000
open Go.RowKit
namespace ShufList
open ShufRounds
theorem Rnds.other {base : Nat} {w w' : World} {s : Nat → Nat} {n k : Nat} {ρ : Nat → Nat} {A : Option Addr} {c : Nat} {D : Nat → Nat} (h : Rnds base w s n k ρ A c D) {g : Nat} (hg : w.grownBy w' (some g)) (hb : g < base) : Rnds base w' s n k ρ A c D :=
  ⟨h.own.kept hg (fun ad e er => by injection er with er; have := (h.own.base_le ad e).1; omega), fun r hr => ⟨(h.dig r hr).1.of_block (hg.block _ (h.dig r hr).1.lt (fun e => by injection e with e; have := (h.dig r hr).2; omega)), (h.dig r hr).2⟩⟩
theorem wp_scope_l {P : Program} {a : Act} {w : World} {Q : Exit → Act → World → Prop} {c R : Code} (l : Nat) (J : Act → World → Prop) (μ : Act → World → Nat) (hf : findLabel c l = some (.seq .skip R))
    (pass : ∀ a w, J a w → R.wp P (Exit.jump l (fun a' w' => J a' w' ∧ μ a' w' < μ a w) Q) a w)
    (first : (∀ a w, J a w → R.wp P (Exit.jump l J Q) a w) → c.wp P (Exit.jump l J Q) a w) : (Code.scope c).wp P Q a w := by
  refine wp_scope_jumps l J μ hf (first fun a w h => wp_mono (pass a w h) ?_) fun a w h => wp_seq (wp_skip (pass a w h))
  intro e a' w' he
  cases e with
  | goto l' => exact ⟨he.1, he.2.1⟩
  | _ => exact he
theorem cvIU (m : Nat) (hm : m < 9223372036854775808) (w : World) : (convert 3 25 (.int .i64 (m:Int))).run Tryd.prog w = .ok (.int .u64 (m:Int)) w := by
  simp [go_sem, IntKind.wrap, IntKind.bits, IntKind.signed]; omega
/-- The blocks of a round, of which t are reckoned. -/
def bpt (s : Nat → Nat) (j t : Nat) : Nat → Nat := fun i => if i < t * 32 then blkN s j (i / 32) (i % 32) else 0
theorem bp_step {s : Nat → Nat} {j t N : Nat} : ∀ q, q < N → (if t * 32 ≤ q ∧ q < t * 32 + 32 then u8v (blkN s j t) (q - t * 32) else u8v (bpt s j t) q) = u8v (bpt s j (t + 1)) q := fun q _ => by
  unfold bpt
  by_cases h : t * 32 ≤ q ∧ q < t * 32 + 32
  · rw [if_pos h]
    simp only [u8v]
    rw [if_pos (by omega), show q / 32 = t by omega, show q % 32 = q - t * 32 by omega]
  · rw [if_neg h]
    simp only [u8v]
    by_cases h1 : q < t * 32
    · rw [if_pos h1, if_pos (by omega)]
    · rw [if_neg h1, if_neg (by omega)]
theorem bp_at {s : Nat → Nat} {j nb q p : Nat} (hq : q < nb) (hp : p < 32) : u8v (bpt s j nb) (q * 32 + p) = u8v (blkN s j q) p := by
  unfold bpt
  simp only [u8v]
  rw [if_pos (by omega), show (q * 32 + p) / 32 = q by omega, show (q * 32 + p) % 32 = p by omega]
theorem sw_cell {s : Nat → Nat} {n v j i q f : Nat} {G : Nat → Nat} {F' : Nat → Value} (hv : v < n) (hi : i < n) (hq : q < n) (hfn : f < n) (hf : f = flipN v n i) (h : i < f) (ht : turnN s j i f = true) (hF : ∀ q, q < n → F' q = .int .u64 ((swF s n v j i G q : Nat) : Int)) : (if q = f then F' i else if q = i then F' f else F' q) = .int .u64 ((swF s n v j (i + 1) G q : Nat) : Int) := by
  rw [sw_swap hv hi hq hf h ht]
  by_cases h1 : q = f
  · rw [if_pos h1, if_pos h1]; exact hF i hi
  · rw [if_neg h1, if_neg h1]
    by_cases h2 : q = i
    · rw [if_pos h2, if_pos h2]; exact hF f hfn
    · rw [if_neg h2, if_neg h2]; exact hF q hq
theorem run_idxZU {P : Program} (w : World) {t e : TypeId} {z n c k : Nat} (hu : P.underlying t = some (.slice e)) (hz : (P.info? e).map (·.size) = some z) (ad : Addr) (hk : k < n) : (Instr.indexAt t (.slice (some ad) n c) (.int .u64 (k : Int))).run P w = .ok (.pointer (some (ad.add (k * z)))) w := by
  have h1 : ¬ n ≤ k := by omega
  simp [Instr.indexAt, run_underlying hu, sizeOf_run hz, go_sem, h1]
theorem st64 (a : Addr) (v : Value) (u : Value) (m : Int) (hv : v = .int .u64 m) (w : World) (h : w.cell? a = some u) (hf : w.frozen? a = false) : (Instr.storeAt 25 (.pointer (some a)) v).run Tryd.prog w = .ok () (w.setCell a v) := by
  subst hv
  simp [go_sem, h, hf]
theorem wp_st64 {o : Oper} {a : Act} {w w0 : World} {K : Act → World → Prop} {Q : Exit → Act → World → Prop} {rows : List RowSpec} (x y : Operand) (ho : o.op = .store 25 x y) (h : HS w0 w rows) (k : Nat) {b : Nat} {t : TypeId} {n : Nat} {f : Nat → Value} (hk : rows[k]? = some ⟨b, t, n, f⟩) (off : Nat) (v : Value) (m : Int) (hv : v = .int .u64 m) (hx : a.eval x = .pointer (some ⟨b, off, none⟩)) (hy : a.eval y = v) (hfit : off < n)
    (hK : ∀ w', HS w0 w' (rows.set k ⟨b, t, n, fun j => if j = off then v else f j⟩) → K (a.put o.dst undef) w') : o.wp Tryd.prog a w K Q := by
  have hrun := st64 ⟨b, off, none⟩ v _ m hv w (h.cell k off hk hfit) (h.frozen k off hk)
  unfold Oper.wp execOp
  simp only [ho, hx, hy, Sem.run_bind, hrun, Result.andThen_ok, Sem.run_pure]
  exact hK _ (h.set k off hk v)
/-- At the label: j + 1 rounds are left. -/
def J (w : World) (A : Option Addr) (c n : Nat) (x s : Nat → Nat) (a : Act) (wr : World) : Prop := ∃ (j b3 g6 c6 g8 c8 base : Nat) (D : Nat → Nat) (F : Nat → Value) (u2 u10 u11 u12 u13 u14 u15 u16 u17 u18 u19 u20 u21 u22 u23 u24 u25 u26 u27 u28 u29 u30 u31 u32 u33 u34 u35 u36 u37 u38 u39 u40 u41 u42 u43 u44 u45 u46 u47 u48 u49 u50 u51 u52 u53 u54 u55 u56 u57 u58 u59 u60 u61 u62 u63 u64 u65 u66 u67 u68 u69 u70 u71 u72 u73 u74 u75 u76 u77 u78 u79 u80 u81 u82 u83 u84 u85 u86 u87 u88 u89 u90 : Value),
  a = ⟨#[.slice A n c, rootV s, u2, .pointer (some ⟨b3, 0, none⟩), .slice none 0 0, .int .i64 0, .slice (some ⟨g6, 0, none⟩) n c6, .int .u64 (n : Int), .slice (some ⟨g8, 0, none⟩) 6 c8, .int .i64 ((j : Int) + 1), u10, u11, u12, u13, u14, u15, u16, u17, u18, u19, u20, u21, u22, u23, u24, u25, u26, u27, u28, u29, u30, u31, u32, u33, u34, u35, u36, u37, u38, u39, u40, u41, u42, u43, u44, u45, u46, u47, u48, u49, u50, u51, u52, u53, u54, u55, u56, u57, u58, u59, u60, u61, u62, u63, u64, u65, u66, u67, u68, u69, u70, u71, u72, u73, u74, u75, u76, u77, u78, u79, u80, u81, u82, u83, u84, u85, u86, u87, u88, u89, u90], []⟩ ∧ j ≤ 5 ∧ HS w wr [⟨g6, 25, c6 * 1, F⟩, ⟨b3, 23, 32, u8v s⟩] ∧ (∀ q, q < n → F q = .int .u64 ((x (lastN s n (5 - j) q) : Nat) : Int)) ∧ Rnds base wr s n 6 fwd (some ⟨g8, 0, none⟩) c8 D ∧ w.heap.size ≤ b3 ∧ b3 < g6 ∧ g6 < base ∧ base ≤ wr.heap.size ∧ n ≤ c6 ∧ c6 ≤ maxLen
end ShufList
open ShufList ShufRounds in
set_option maxHeartbeats 4000000 in
theorem list_long (n c : Nat) (A : Option Addr) (s : Nat → Nat) (w : World) (hn : 65536 < n) :
    Calls Tryd.prog 30 #[.slice A n c, rootV s] w fun e w' => e = .returned (.tuple #[.slice none 0 0, .int .i64 1]) ∧ Below w.heap.size w w' := by
  have HS0 := Lib.hid (HS.nil w)
  have t1 : decide ((65536 : Int) < (n : Int)) = true := decide_eq_true (by omega)
  go_enter Tryd.func30, Tryd.ntmps30
  go_wp2_with (refine wpList_boxL rfl 23 _ 3 rfl rfl HS0.out 32 (u8v s) rfl ?_; intro b3 w3 hb3 hc3 hs; have HS3 := Lib.hid hs; clear hs)
  refine wp_scope_l 0 (fun _ _ => False) (fun _ _ => 0) rfl (fun _ _ h => h.elim) fun _ => ?_
  go_wp2_with fail
  simp only [Exit.jump]
  go_ret2
  exact ⟨rfl, HS3.out.out (by simp; omega)⟩
open ShufList ShufRounds in
set_option maxRecDepth 100000 in
set_option maxHeartbeats 16000000 in
theorem list_ok (n c : Nat) (A : Option Addr) (x s : Nat → Nat) (hs : ∀ i, s i < 256) (w : World) (hb : Rd w w.heap.size A n (u64v x)) (hn : n ≤ 65536) (hA0 : A = none → c = 0) (hp : ShaPkg w) :
    Calls Tryd.prog 30 #[.slice A n c, rootV s] w fun e w' => ∃ A' c', e = .returned (.tuple #[.slice A' n c', .int .i64 0]) ∧ OwnZ w' w.heap.size 25 1 A' n c' (u64v fun q => x (placeN s n q)) ∧ Below w.heap.size w w' := by
  have HS0 := Lib.hid (HS.nil w)
  have HX := Lib.hid hb
  have HP := Lib.hid hp
  have HSl := Lib.hid hs
  have HA0 := Lib.hid hA0
  have t1 : decide ((65536 : Int) < (n : Int)) = false := decide_eq_false (by omega)
  clear hb hp hs hA0
  by_cases hn0 : n = 0
  · subst hn0
    go_enter Tryd.func30, Tryd.ntmps30
    go_wp2_with (refine wpList_boxL rfl 23 _ 3 rfl rfl HS0.out 32 (u8v s) rfl ?_; intro b3 w3 hb3 hc3 hs; have HS3 := Lib.hid hs; clear hs)
    refine wp_scope_l 0 (fun _ _ => False) (fun _ _ => 0) rfl (fun _ _ h => h.elim) fun _ => ?_
    go_wp2_with (go_at_call 49; refine (clone_any 0 c A x _ ((HX.out.below (HS3.out.out (by simp; omega))).more HS3.out.size) (by omega) HA0.out).mono ?_; rintro e w6 ⟨A6, c6, rfl, ho, hb⟩; have HO6 := Lib.hid ho; have HS6 := Lib.hid (HS3.out.below hb); have hb3w : b3 < w3.heap.size := HS3.out.lt 0 rfl; have h36 := hb.size; clear ho hb)
    simp only [Exit.jump]
    go_ret2
    exact ⟨A6, c6, rfl, (HO6.out.mono HS3.out.size).congr (fun i hi => by omega), HS6.out.out (by simp; omega)⟩
  · have t2 : ((n : Int) == 0) = false := by rw [beq_eq_false_iff_ne]; omega
    go_enter Tryd.func30, Tryd.ntmps30
    go_wp2_with (refine wpList_boxL rfl 23 _ 3 rfl rfl HS0.out 32 (u8v s) rfl ?_; intro b3 w3 hb3 hc3 hs; have HS3 := Lib.hid hs; clear hs)
    refine wp_scope_l 0 (J w A c n x s) (fun a _ => (intOf (a.tmps.getD 9 undef)).toNat) rfl ?_ ?_
    · rintro a wp0 ⟨j, b3, g6, c6, g8, c8, base, D, F, u2, u10, u11, u12, u13, u14, u15, u16, u17, u18, u19, u20, u21, u22, u23, u24, u25, u26, u27, u28, u29, u30, u31, u32, u33, u34, u35, u36, u37, u38, u39, u40, u41, u42, u43, u44, u45, u46, u47, u48, u49, u50, u51, u52, u53, u54, u55, u56, u57, u58, u59, u60, u61, u62, u63, u64, u65, u66, u67, u68, u69, u70, u71, u72, u73, u74, u75, u76, u77, u78, u79, u80, u81, u82, u83, u84, u85, u86, u87, u88, u89, u90, rfl, hj, hs, hF, hrn, hb3, h36, h6b, hbw, hnc, hcm⟩
      clear HS3 HS0 HA0 HX
      have HRn := Lib.hid hrn
      have HSp := Lib.hid hs
      have HF := Lib.hid hF
      have HWp := Lib.hid (hs.out (by simp; omega))
      have HPp := Lib.hid (HP.out.below (hs.out (by simp; omega)))
      obtain ⟨v, hv⟩ : ∃ v, v = pivN s n j := ⟨_, rfl⟩
      obtain ⟨d, hd⟩ : ∃ d, d = D j := ⟨_, rfl⟩
      have hvn : v < n := by rw [hv]; exact pivN_lt s _ (by omega)
      have HDd := Lib.hid (show Dig wp0 d (preN s j) 33 by rw [hd]; exact (hrn.dig j (by omega)).1)
      have hdb : base ≤ d := by rw [hd]; exact (hrn.dig j (by omega)).2
      have hdl : d < wp0.heap.size := HDd.out.lt
      have HC := Lib.hid (show ∀ q, q < 2 → wp0.cell? ⟨g8, j * 2 + q, none⟩ = some (rndF v d q) from fun q hq => by
        have h := hrn.own.rd.cells (show j * 2 + q < 6 * 2 by omega)
        rw [add_lit0] at h
        rw [h]
        unfold lstF fwd
        rw [show (j * 2 + q) / 2 = j by omega, show (j * 2 + q) % 2 = q by omega, ← hv, ← hd])
      have HV := Lib.hid hv
      obtain ⟨nb, hnb⟩ : ∃ nb, (n + 255) / 256 = nb := ⟨_, rfl⟩
      have hnb1 : nb ≤ 256 ∧ n ≤ nb * 256 := by omega
      have HNB := Lib.hid hnb
      have HN := Lib.hid (HS.nil wp0)
      clear hs hF hrn hv hd hnb
      go_wp2_with (first
        | (refine wpList_as rfl 35 rfl (.pointer (some ⟨g8, j * 2, none⟩)) ?_ ?_; (· exact ex_idx rfl rfl rfl (fun w => (run_idxZ (z := 2) w Tryd.underlying72 (by kernel_rfl) ⟨g8, 0, none⟩ (by omega)).trans (by rw [add_lit0])) _))
        | (refine wpList_load_part rfl 76 (.tmp 35) rfl g8 (j * 2) 2 (rndF v d) rfl _ HC.out Tryd.underlying76 rfl (by kernel_rfl) _ rfl ?_)
        | (refine wpList_allocL rfl 76 10 rfl rfl HN.out #[.int .u64 0, .pointer none] (by kernel_rfl) 2 ShufWalk.zR (by rfl) ShufWalk.zR_at ?_; intro b10 w1 hb10 hc10 hs; have HS1 := Lib.hid hs; clear hs)
        | (refine wpList_storeH rfl 76 (.tmp 10) (.tmp 36) rfl HS1.out 0 rfl (rndF v d) rfl rfl (by kernel_rfl) (fun i _ => rnd_one _ _ i) ?_; intro w2 hs; have HS2 := Lib.hid hs; clear hs)
        | (refine wpList_as rfl 38 rfl (.int .u64 ((n + 255 : Nat) : Int)) ?_ ?_; (· exact ex_bin rfl rfl rfl rfl (fun w => ShufFn.addU n 255 w (by omega)) _))
        | (refine wpList_as rfl 39 rfl (.int .u64 (nb : Int)) ?_ ?_; (· exact ex_bin rfl rfl rfl rfl (fun w => ShufWalk.shr8 (n + 255) nb HNB.out w) _))
        | (refine wpList_makeLU rfl 24 (e := 23) (z := .agg (Array.replicate 32 (.int .u8 0))) (k := 32) (bytes := 32) Tryd.underlying24 (by kernel_rfl) (.tmp 39) (.tmp 39) rfl nb rfl rfl (u8v (bpt s j 0)) (fun i hi => (made_u8 32 _ (by omega) i hi).trans (congrArg some (by simp [u8v, bpt]))) (by omega) (by omega) HS2.out ?_; intro bb w4 hbb hcb hs; have HS4 := Lib.hid hs; clear hs))
      go_loopw [43] (fun o43 wr => ∃ t : Nat, o43 = .int .i64 (t : Int) ∧ t ≤ nb ∧ HS wp0 wr [⟨bb, 23, nb * 32, u8v (bpt s j t)⟩, ⟨b10, 76, 2, rndF v d⟩]) (fun o _ => nb - (intOf o).toNat)
      case atStart => exact ⟨0, rfl, by omega, HS4.out⟩
      case round =>
        clear HS4 HS2 HS1 HN
        obtain ⟨t, rfl, ht, hs⟩ := hrel
        have HSr := Lib.hid hs
        clear hs
        by_cases htn : t < nb
        · go_wp2_with (first
            | (refine wpList_load_rd rfl 76 _ rfl 2 _ Tryd.underlying76 rfl (by kernel_rfl) ⟨b10, 0, none⟩ rfl (rndF v d) (fun i hi => by rw [add_lit0]; exact HSr.out.cell 1 i rfl hi) ?_)
            | (refine wpList_as rfl 50 rfl (.int .u64 (t : Int)) ?_ ?_; (· exact ex_cnv rfl rfl (fun w => cvIU t (by omega) w) _))
            | (go_at_call 51; refine (block_look s HSl.out v d j t (by omega) _ (HDd.out.below (HSr.out.out (by simp; omega)) hdl) (HPp.out.below (HSr.out.out (by simp; omega)))).mono ?_; rintro e w5 ⟨rfl, hb⟩; have HS5 := Lib.hid (HSr.out.below hb); clear hb)
            | (refine wpList_as rfl 52 rfl (.pointer (some ⟨bb, t * 32, none⟩)) ?_ ?_; (· exact ex_idx rfl rfl rfl (fun w => (run_idxZ (z := 32) w Tryd.underlying24 (by kernel_rfl) ⟨bb, 0, none⟩ (by omega)).trans (by rw [add_lit0])) _))
            | (refine wpList_storeP rfl 23 (.tmp 52) (.tmp 51) rfl HS5.out 0 rfl (t * 32) 32 (u8v (blkN s j t)) rfl rfl (by kernel_rfl) (by omega) (fun _ _ => rfl) (u8v (bpt s j (t + 1))) bp_step ?_; intro w6 hs; have HS6 := Lib.hid hs; clear hs))
          go_roundw
          case rel => exact ⟨t + 1, by go_num, by omega, HS6.out⟩
          case measure => simp [intOf]; omega
        · obtain rfl : nb = t := by omega
          obtain ⟨wq, hwq⟩ : ∃ wq, wq = wr := ⟨_, rfl⟩
          rw [← hwq] at HSr ⊢
          clear hwq
          have hq0 := HSr.out.size
          have HBq := Lib.hid (HSr.out.out (by simp; omega))
          have Rb := Lib.hid (HSr.out.row 0 rfl)
          have R10 := Lib.hid (HSr.out.row 1 rfl)
          have HSq := Lib.hid (HSp.out.below HBq.out)
          have HRq := Lib.hid (HRn.out.below HBq.out)
          have hg6q : g6 < wq.heap.size := HSq.out.lt 0 rfl
          have HG := Lib.hid (HS.own (HSq.out.row 0 rfl))
          obtain ⟨G, hG⟩ : ∃ G : Nat → Nat, G = fun q => x (lastN s n (5 - j) q) := ⟨_, rfl⟩
          have HGd := Lib.hid hG
          have HF0 := Lib.hid (show ∀ q, q < n → F q = .int .u64 ((swF s n v j 0 G q : Nat) : Int) by rw [sw_zero, hG]; exact HF.out)
          clear hG HSr HSp HRn HDd HC HF HPp HWp HNB
          go_wp2_with fail
          go_loopw [55] (fun o55 wr => ∃ (i : Nat) (F' : Nat → Value), o55 = .int .u64 (i : Int) ∧ i ≤ n ∧ HS wq wr [⟨g6, 25, c6 * 1, F'⟩] ∧ ∀ q, q < n → F' q = .int .u64 ((swF s n v j i G q : Nat) : Int)) (fun o _ => n - (intOf o).toNat)
          case atStart => exact ⟨0, F, rfl, by omega, HG.out, HF0.out⟩
          case round =>
            clear HG HF0
            obtain ⟨i, F', rfl, hi, hs, hF'⟩ := hrel
            have HSr := Lib.hid hs
            have HF := Lib.hid hF'
            have HGr := Lib.hid (hs.grown g6 (by simp))
            clear hs hF'
            have R10r := Lib.hid (R10.out.of_block (HGr.out.block b10 R10.out.lt (fun e => by injection e; omega)))
            have Rbr := Lib.hid (Rb.out.of_block (HGr.out.block bb Rb.out.lt (fun e => by injection e; omega)))
            by_cases hin : i < n
            · obtain ⟨f, hf⟩ : ∃ f, f = flipN v n i := ⟨_, rfl⟩
              have hfn : f < n := by rw [hf]; exact flip_lt hvn hin
              have HFl := Lib.hid hf.symm
              have HFf := Lib.hid hf
              obtain ⟨q, hq⟩ : ∃ q, f / 256 = q := ⟨_, rfl⟩
              have HQ := Lib.hid hq
              have hqb : q < nb := by omega
              clear hf hq
              by_cases hif : i < f
              · have t5 : decide ((i : Int) < (f : Int)) = true := decide_eq_true (by omega)
                obtain ⟨bt, hbt⟩ : ∃ bt, bt = bitN (blkN s j q) f := ⟨_, rfl⟩
                have HBt := Lib.hid hbt.symm
                have HTn := Lib.hid (show turnN s j i f = bt by unfold turnN; rw [show max i f = f by omega, HQ.out, hbt])
                clear hbt
                cases bt with
                | false =>
                  go_wp2_with (first
                    | (refine wpList_load_rd rfl 76 _ rfl 2 _ Tryd.underlying76 rfl (by kernel_rfl) ⟨b10, 0, none⟩ rfl (rndF v d) (fun i hi => by rw [add_lit0]; exact R10r.out.cell hi) ?_)
                    | (go_at_call 52; refine (flip_look v d n i _ hvn hin (by omega)).mono ?_; rintro e wx ⟨rfl, hb⟩; rw [HFl.out]; have HSx := Lib.hid (HSr.out.below hb); have HBx := Lib.hid hb; clear hb)
                    | (refine wpList_asG rfl rfl rfl 68 rfl (.int .u64 (q : Int)) ?_ ?_; (· exact ex_bin rfl rfl rfl rfl (fun w => ShufWalk.shr8 f q HQ.out w) _))
                    | (refine wpList_asG rfl rfl rfl 69 rfl (.pointer (some ⟨bb, q * 32, none⟩)) ?_ ?_; (· exact ex_idx rfl rfl rfl (fun w => (run_idxZU (z := 32) w Tryd.underlying24 (by kernel_rfl) ⟨bb, 0, none⟩ hqb).trans (by rw [add_lit0])) _))
                    | (go_at_call 53; refine (bit_look ⟨bb, q * 32, none⟩ (blkN s j q) f _ (fun p hp => by rw [add_litO]; exact ((row_below Rbr.out HBx.out Rbr.out.lt).cell (by omega)).trans (congrArg some (bp_at hqb hp))) (blkN_lt s j q) (by omega)).mono ?_; rintro e wy ⟨rfl, hw⟩; rw [hw, HBt.out]; clear hw wy))
                  go_roundw
                  case rel => exact ⟨i + 1, F', by go_num, by omega, HSx.out, fun q hq => by rw [sw_skip hvn hq (by rw [← HFf.out, HTn.out]; simp)]; exact HF.out q hq⟩
                  case measure => simp [intOf]; omega
                | true =>
                  go_upto_region 22 with (first
                    | (refine wpList_load_rd rfl 76 _ rfl 2 _ Tryd.underlying76 rfl (by kernel_rfl) ⟨b10, 0, none⟩ rfl (rndF v d) (fun i hi => by rw [add_lit0]; exact R10r.out.cell hi) ?_)
                    | (go_at_call 52; refine (flip_look v d n i _ hvn hin (by omega)).mono ?_; rintro e wx ⟨rfl, hb⟩; rw [HFl.out]; have HSx := Lib.hid (HSr.out.below hb); have HBx := Lib.hid hb; clear hb)
                    | (refine wpList_asG rfl rfl rfl 68 rfl (.int .u64 (q : Int)) ?_ ?_; (· exact ex_bin rfl rfl rfl rfl (fun w => ShufWalk.shr8 f q HQ.out w) _))
                    | (refine wpList_asG rfl rfl rfl 69 rfl (.pointer (some ⟨bb, q * 32, none⟩)) ?_ ?_; (· exact ex_idx rfl rfl rfl (fun w => (run_idxZU (z := 32) w Tryd.underlying24 (by kernel_rfl) ⟨bb, 0, none⟩ hqb).trans (by rw [add_lit0])) _))
                    | (go_at_call 53; refine (bit_look ⟨bb, q * 32, none⟩ (blkN s j q) f _ (fun p hp => by rw [add_litO]; exact ((row_below Rbr.out HBx.out Rbr.out.lt).cell (by omega)).trans (congrArg some (bp_at hqb hp))) (blkN_lt s j q) (by omega)).mono ?_; rintro e wy ⟨rfl, hw⟩; rw [hw, HBt.out]; clear hw wy))
                  refine ord_enter (n := 16) (by kernel_rfl) (by kernel_rfl) ?_
                  have HSv0 := Lib.hid HSx.out.drew
                  generalize wx.drew = wv at HSv0 ⊢
                  have HSv := Lib.hid HSv0.out
                  clear HSv0 HSx HBx
                  refine ord_take (i := 0) (.slice (some ⟨g6, 0, none⟩) n c6) rfl (by kernel_rfl) (by kernel_rfl) (by kernel_rfl) rfl (fun _ _ _ h => h) (ex_move (.inl rfl) rfl) ?_
                  refine ord_take (i := 1) (.int .u64 (i : Int)) rfl (by kernel_rfl) (by kernel_rfl) (by kernel_rfl) rfl (fun _ _ _ h => h) (ex_move (.inl rfl) rfl) ?_
                  refine ord_take (i := 2) (.slice (some ⟨g6, 0, none⟩) n c6) rfl (by kernel_rfl) (by kernel_rfl) (by kernel_rfl) rfl (fun _ _ _ h => h) (ex_move (.inl rfl) rfl) ?_
                  refine ord_take (i := 3) (.int .u64 (f : Int)) rfl (by kernel_rfl) (by kernel_rfl) (by kernel_rfl) rfl (fun _ _ _ h => h) (ex_move (.inl rfl) rfl) ?_
                  refine ord_take (i := 4) (.slice (some ⟨g6, 0, none⟩) n c6) rfl (by kernel_rfl) (by kernel_rfl) (by kernel_rfl) rfl (fun _ _ _ h => h) (ex_move (.inl rfl) rfl) ?_
                  refine ord_take (i := 5) (.int .u64 (f : Int)) rfl (by kernel_rfl) (by kernel_rfl) (by kernel_rfl) rfl (fun _ _ _ h => h) (ex_move (.inl rfl) rfl) ?_
                  simp only [Act.put, List.setIfInBounds_toArray, List.set_cons_succ, List.set_cons_zero]
                  refine ord_take (i := 6) (.pointer (some ⟨g6, f, none⟩)) rfl (by kernel_rfl) (by kernel_rfl) (by kernel_rfl) rfl (fun _ _ _ h => h) (ex_idx rfl rfl rfl (fun w => (run_idxZU (z := 1) w Tryd.underlying46 (by kernel_rfl) ⟨g6, 0, none⟩ (by omega)).trans (by rw [add_lit0, Nat.mul_one]))) ?_
                  refine ord_take (i := 8) (.slice (some ⟨g6, 0, none⟩) n c6) rfl (by kernel_rfl) (by kernel_rfl) (by kernel_rfl) rfl (fun _ _ _ h => h) (ex_move (.inl rfl) rfl) ?_
                  refine ord_take (i := 9) (.int .u64 (i : Int)) rfl (by kernel_rfl) (by kernel_rfl) (by kernel_rfl) rfl (fun _ _ _ h => h) (ex_move (.inl rfl) rfl) ?_
                  simp only [Act.put, List.setIfInBounds_toArray, List.set_cons_succ, List.set_cons_zero]
                  refine ord_take (i := 10) (.pointer (some ⟨g6, i, none⟩)) rfl (by kernel_rfl) (by kernel_rfl) (by kernel_rfl) rfl (fun _ _ _ h => h) (ex_idx rfl rfl rfl (fun w => (run_idxZU (z := 1) w Tryd.underlying46 (by kernel_rfl) ⟨g6, 0, none⟩ (by omega)).trans (by rw [add_lit0, Nat.mul_one]))) ?_
                  simp only [Act.put, List.setIfInBounds_toArray, List.set_cons_succ, List.set_cons_zero]
                  refine ord_both (i := 7) (j := 11) rfl rfl (by kernel_rfl) rfl rfl (fun K hK => ?_) (fun K hK => ?_)
                  · refine wp_exv (F' f) (ex_ld1 .u64 rfl rfl Tryd.underlying25 (HSv.out.cell 0 f rfl (by omega))) ?_
                    refine hK _ _ ?_
                    clear hK
                    simp only [Act.put, List.setIfInBounds_toArray, List.set_cons_succ, List.set_cons_zero]
                    refine ord_step (i := 11) rfl (by kernel_rfl) rfl (fun K hK => ?_)
                    refine wp_exv (F' i) (ex_ld1 .u64 rfl rfl Tryd.underlying25 (HSv.out.cell 0 i rfl (by omega))) ?_
                    refine hK _ _ ?_
                    clear hK
                    simp only [Act.put, List.setIfInBounds_toArray, List.set_cons_succ, List.set_cons_zero]
                    refine ord_step (i := 12) rfl (by kernel_rfl) rfl (fun K hK => ?_)
                    refine wp_exv (.pointer (some ⟨g6, i, none⟩)) (ex_idx rfl rfl rfl (fun w => (run_idxZU (z := 1) w Tryd.underlying46 (by kernel_rfl) ⟨g6, 0, none⟩ (by omega)).trans (by rw [add_lit0, Nat.mul_one])) _) ?_
                    refine hK _ _ ?_
                    clear hK
                    simp only [Act.put, List.setIfInBounds_toArray, List.set_cons_succ, List.set_cons_zero]
                    refine ord_step (i := 13) rfl (by kernel_rfl) rfl (fun K hK => ?_)
                    refine wp_st64 (.tmp 85) (.tmp 80) rfl HSv.out 0 rfl i (F' f) _ (HF.out f hfn) rfl rfl (by omega) ?_; intro w2 hs; have HS2 := Lib.hid hs; clear hs
                    refine hK _ _ ?_
                    clear hK
                    simp only [Act.put]
                    refine ord_step (i := 14) rfl (by kernel_rfl) rfl (fun K hK => ?_)
                    refine wp_exv (.pointer (some ⟨g6, f, none⟩)) (ex_idx rfl rfl rfl (fun w => (run_idxZU (z := 1) w Tryd.underlying46 (by kernel_rfl) ⟨g6, 0, none⟩ (by omega)).trans (by rw [add_lit0, Nat.mul_one])) _) ?_
                    refine hK _ _ ?_
                    clear hK
                    simp only [Act.put, List.setIfInBounds_toArray, List.set_cons_succ, List.set_cons_zero]
                    refine ord_step (i := 15) rfl (by kernel_rfl) rfl (fun K hK => ?_)
                    refine wp_st64 (.tmp 86) (.tmp 84) rfl HS2.out 0 rfl f (F' i) _ (HF.out i hin) rfl rfl (by omega) ?_; intro w3 hs; have HS3 := Lib.hid hs; clear hs
                    refine hK _ _ ?_
                    clear hK
                    simp only [Act.put]
                    refine wpAny_done (by kernel_rfl) ?_ _
                    go_wp2_with fail
                    go_roundw
                    case rel => exact ⟨i + 1, _, by go_num, by omega, HS3.out, fun q hq => sw_cell hvn hin hq hfn HFf.out hif HTn.out HF.out⟩
                    case measure => simp [intOf]; omega
                  · refine wp_exv (F' i) (ex_ld1 .u64 rfl rfl Tryd.underlying25 (HSv.out.cell 0 i rfl (by omega))) ?_
                    refine hK _ _ ?_
                    clear hK
                    simp only [Act.put, List.setIfInBounds_toArray, List.set_cons_succ, List.set_cons_zero]
                    refine ord_step (i := 7) rfl (by kernel_rfl) rfl (fun K hK => ?_)
                    refine wp_exv (F' f) (ex_ld1 .u64 rfl rfl Tryd.underlying25 (HSv.out.cell 0 f rfl (by omega))) ?_
                    refine hK _ _ ?_
                    clear hK
                    simp only [Act.put, List.setIfInBounds_toArray, List.set_cons_succ, List.set_cons_zero]
                    refine ord_step (i := 12) rfl (by kernel_rfl) rfl (fun K hK => ?_)
                    refine wp_exv (.pointer (some ⟨g6, i, none⟩)) (ex_idx rfl rfl rfl (fun w => (run_idxZU (z := 1) w Tryd.underlying46 (by kernel_rfl) ⟨g6, 0, none⟩ (by omega)).trans (by rw [add_lit0, Nat.mul_one])) _) ?_
                    refine hK _ _ ?_
                    clear hK
                    simp only [Act.put, List.setIfInBounds_toArray, List.set_cons_succ, List.set_cons_zero]
                    refine ord_step (i := 13) rfl (by kernel_rfl) rfl (fun K hK => ?_)
                    refine wp_st64 (.tmp 85) (.tmp 80) rfl HSv.out 0 rfl i (F' f) _ (HF.out f hfn) rfl rfl (by omega) ?_; intro w2 hs; have HS2 := Lib.hid hs; clear hs
                    refine hK _ _ ?_
                    clear hK
                    simp only [Act.put]
                    refine ord_step (i := 14) rfl (by kernel_rfl) rfl (fun K hK => ?_)
                    refine wp_exv (.pointer (some ⟨g6, f, none⟩)) (ex_idx rfl rfl rfl (fun w => (run_idxZU (z := 1) w Tryd.underlying46 (by kernel_rfl) ⟨g6, 0, none⟩ (by omega)).trans (by rw [add_lit0, Nat.mul_one])) _) ?_
                    refine hK _ _ ?_
                    clear hK
                    simp only [Act.put, List.setIfInBounds_toArray, List.set_cons_succ, List.set_cons_zero]
                    refine ord_step (i := 15) rfl (by kernel_rfl) rfl (fun K hK => ?_)
                    refine wp_st64 (.tmp 86) (.tmp 84) rfl HS2.out 0 rfl f (F' i) _ (HF.out i hin) rfl rfl (by omega) ?_; intro w3 hs; have HS3 := Lib.hid hs; clear hs
                    refine hK _ _ ?_
                    clear hK
                    simp only [Act.put]
                    refine wpAny_done (by kernel_rfl) ?_ _
                    go_wp2_with fail
                    go_roundw
                    case rel => exact ⟨i + 1, _, by go_num, by omega, HS3.out, fun q hq => sw_cell hvn hin hq hfn HFf.out hif HTn.out HF.out⟩
                    case measure => simp [intOf]; omega
              · have t5 : decide ((i : Int) < (f : Int)) = false := decide_eq_false (by omega)
                go_wp2_with (first
                    | (refine wpList_load_rd rfl 76 _ rfl 2 _ Tryd.underlying76 rfl (by kernel_rfl) ⟨b10, 0, none⟩ rfl (rndF v d) (fun i hi => by rw [add_lit0]; exact R10r.out.cell hi) ?_)
                    | (go_at_call 52; refine (flip_look v d n i _ hvn hin (by omega)).mono ?_; rintro e wx ⟨rfl, hb⟩; rw [HFl.out]; have HSx := Lib.hid (HSr.out.below hb); have HBx := Lib.hid hb; clear hb))
                go_roundw
                case rel => exact ⟨i + 1, F', by go_num, by omega, HSx.out, fun q hq => by rw [sw_skip hvn hq (by rw [← HFf.out]; exact fun h => hif h.1)]; exact HF.out q hq⟩
                case measure => simp [intOf]; omega
            · obtain rfl : n = i := by omega
              have HFin := Lib.hid (show ∀ q, q < n → F' q = .int .u64 ((x (lastN s n (6 - j) q) : Nat) : Int) from fun q hq => by
                have h := sw_last (s := s) (n := n) (k := 5 - j) (x := x) hq
                rw [show 5 - (5 - j) = j by omega, show 5 - j + 1 = 6 - j by omega] at h
                rw [HF.out q hq, HGd.out, HV.out, h])
              have HSe := Lib.hid (HSq.out.write 0 rfl HGr.out (HSr.out.row 0 rfl))
              have HRe := Lib.hid (Rnds.other HRq.out HGr.out h6b)
              have hse := HGr.out.size
              clear HSq HRq HGr HSr HF R10 Rb R10r Rbr HBq HGd HV
              cases j with
              | zero =>
                have t6 : decide ((0 : Int) < ((0 : Nat) : Int)) = false := by decide
                go_wp2_with fail
                simp only [Exit.jump]
                go_ret2
                exact ⟨some ⟨g6, 0, none⟩, c6, rfl, OwnZ.of_rowC (HSe.out.row 0 rfl) (by omega) hnc hcm (fun q hq => (HFin.out q (by omega)).trans rfl), HSe.out.out (by simp; omega)⟩
              | succ j =>
                have e : (((j + 1 : Nat)) : Int) = (j : Int) + 1 := by omega
                have t6 : decide ((0 : Int) < (j : Int) + 1) = true := decide_eq_true (by omega)
                rw [e]
                clear e
                go_wp2_with fail
                apply wp_goto
                exact ⟨rfl, ⟨j, b3, g6, c6, g8, c8, base, D, F', _, _, _, _, _, _, _, _, _, _, _, _, _, _, _, _, _, _, _, _, _, _, _, _, _, _, _, _, _, _, _, _, _, _, _, _, _, _, _, _, _, _, _, _, _, _, _, _, _, _, _, _, _, _, _, _, _, _, _, _, _, _, _, _, _, _, _, _, _, _, _, _, _, _, _, _, _, _, _, _, _, _, rfl, by omega, HSe.out, fun q hq => by rw [HFin.out q hq, show 6 - (j + 1) = 5 - j by omega], HRe.out, hb3, h36, h6b, by omega, hnc, hcm⟩, by simp [intOf]; omega⟩
    · intro hJ
      go_wp2_with (first
        | (go_at_call 49; refine (clone_any n c A x _ ((HX.out.below (HS3.out.out (by simp; omega))).more HS3.out.size) (by omega) HA0.out).mono ?_; rintro e w6 ⟨A6, c6, rfl, ho, hb⟩; have HO6 := Lib.hid ho; have HS6 := Lib.hid (HS3.out.below hb); have hb3w : b3 < w3.heap.size := HS3.out.lt 0 rfl; have h36 := hb.size; clear ho hb)
        | (refine wpList_as rfl 22 rfl (.int .u64 (n : Int)) ?_ ?_; (· exact ex_cnv rfl rfl (fun w => cvIU n (by omega) w) _))
        | (refine wpList_load_rd rfl 23 _ rfl 32 _ Tryd.underlying23 rfl (by kernel_rfl) ⟨b3, 0, none⟩ rfl (u8v s) (fun i hi => by rw [add_lit0]; exact HS6.out.cell 0 i rfl hi) ?_)
        | (go_at_call 50; refine (rounds_look s HSl.out n (by omega) _ (HP.out.below (HS6.out.out (by simp; omega)))).mono ?_; rintro e w8 ⟨A8, c8, D, rfl, hr, hb⟩; have HR8 := Lib.hid hr; have HB8 := Lib.hid hb; clear hr hb))
      apply wp_label
      rename_i hk
      obtain ⟨ad6, e6, _, _⟩ := HO6.out.rd (show 0 < n * 1 by omega)
      have hd6 := HO6.out.off ad6 e6
      obtain ⟨g6, hg6⟩ : ∃ g, g = ad6.block := ⟨_, rfl⟩
      rw [← hg6] at hd6
      rw [hd6] at e6
      subst e6
      obtain ⟨ad8, e8, _, _⟩ := HR8.out.own.rd (show 0 < 6 * 2 by omega)
      have hd8 := HR8.out.own.off ad8 e8
      obtain ⟨g8, hg8⟩ : ∃ g, g = ad8.block := ⟨_, rfl⟩
      rw [← hg8] at hd8
      rw [hd8] at e8
      subst e8
      obtain ⟨F, hrow, hF, hb6⟩ := HO6.out.row
      have h6 := HO6.out.cap
      have h6m := HO6.out.capM
      have hgb : (⟨g6, 0, none⟩ : Addr).block = g6 := rfl
      rw [hgb] at hrow hb6
      have hlt6 := hrow.lt
      have hs8 := (HS6.out.add hrow (by have := HS3.out.size; omega) (by simp; omega)).below HB8.out
      exact hk _ _ <| hJ _ _ ⟨5, b3, g6, c6, g8, c8, w6.heap.size, D, F, _, _, _, _, _, _, _, _, _, _, _, _, _, _, _, _, _, _, _, _, _, _, _, _, _, _, _, _, _, _, _, _, _, _, _, _, _, _, _, _, _, _, _, _, _, _, _, _, _, _, _, _, _, _, _, _, _, _, _, _, _, _, _, _, _, _, _, _, _, _, _, _, _, _, _, _, _, _, _, _, _, _, rfl, by omega, hs8, fun q hq => by rw [hF q (by omega)]; rfl, HR8.out, hb3, by omega, hlt6, HB8.out.size, h6, h6m⟩
end Go.Proofs.YtjmbgdldnnmipaaDoor
/- pharosref12.Same of lists that are alike. (Printed by a program of mine.) -/
namespace Go.Proofs.YtjmbgdldnnmipaaDoor
set_option maxRecDepth 40000
open Go.RowKit
set_option maxHeartbeats 4000000 in
theorem same12_any (n c c' : Nat) (A A' : Option Addr) (x : Nat → Nat) (w : World) (hb : Rd w w.heap.size A n (u64v x)) (hb' : Rd w w.heap.size A' n (u64v x)) (hn : n ≤ 9223372036854775807) :
    Calls Tryd.prog 32 #[.slice A n c, .slice A' n c'] w fun e w' => e = .returned (.bool true) ∧ Below w.heap.size w w' := by
  have HB := Lib.hid hb
  have HB2 := Lib.hid hb'
  clear hb hb'
  go_enter Tryd.func32, Tryd.ntmps32
  go_wp2_with fail
  go_loopw [5] (fun i wr => ∃ j : Nat, i = .int .i64 (j : Int) ∧ j ≤ n ∧ Below w.heap.size w wr) (fun i _ => n - (intOf i).toNat)
  case atStart => exact ⟨0, rfl, by omega, Below.refl _ _⟩
  case round =>
    obtain ⟨j, rfl, hj, hbw⟩ := hrel
    have HW := Lib.hid hbw
    clear hbw
    by_cases hjn : j < n
    · obtain ⟨ad, hA, _, _⟩ := HB.out (show 0 < n by omega)
      subst hA
      obtain ⟨ad2, hA2, _, _⟩ := HB2.out (show 0 < n by omega)
      subst hA2
      have HCL : Hid (∀ w', Below wr.heap.size wr w' → ∀ i, i < n → w'.cell? (ad.add (i * 1)) = some (u64v x i)) := Lib.hid (fun w' hb i hi => by rw [Nat.mul_one]; exact (HB.out.below (HW.out.trans (hb.mono HW.out.size))).cells hi)
      have HCL2 : Hid (∀ w', Below wr.heap.size wr w' → ∀ i, i < n → w'.cell? (ad2.add (i * 1)) = some (u64v x i)) := Lib.hid (fun w' hb i hi => by rw [Nat.mul_one]; exact (HB2.out.below (HW.out.trans (hb.mono HW.out.size))).cells hi)
      go_wp2_with fail
      refine wp_region_facts (B := wr.heap.size) (w0 := wr) [SF.is (.slice (some ad) (n) (c)), SF.is (.int .i64 ((j : Nat) : Int)), SF.is (.pointer (some (ad.add (j * 1)))), SF.is (.int .u64 ((x j : Nat) : Int)), SF.is (.slice (some ad2) (n) (c')), SF.is (.int .i64 ((j : Nat) : Int)), SF.is (.pointer (some (ad2.add (j * 1)))), SF.is (.int .u64 ((x j : Nat) : Int)), SF.is (.bool false)] (by kernel_rfl) (by kernel_rfl) rfl (Nat.le_refl _) (Below.refl _ _) ⟨?_, ?_, ?_, ?_, ?_, ?_, ?_, ?_, ?_, trivial⟩ ?_
      · exact (opOb_move _ rfl (.inl rfl) rfl)
      · exact (opOb_move _ rfl (.inl rfl) rfl)
      · exact opOb_idx rfl rfl (OpK.tmp rfl) (OpK.tmp rfl) (fun w => run_idxZ (z := 1) (k := j) w Tryd.underlying46 (by kernel_rfl) ad (by omega))
      · exact opOb_ld rfl rfl (OpK.tmp rfl) (fun w' hb => run_ld1 w' (ad.add (j * 1)) _ .u64 _ (HCL.out w' hb j (by omega)) Tryd.underlying25)
      · exact (opOb_move _ rfl (.inl rfl) rfl)
      · exact (opOb_move _ rfl (.inl rfl) rfl)
      · exact opOb_idx rfl rfl (OpK.tmp rfl) (OpK.tmp rfl) (fun w => run_idxZ (z := 1) (k := j) w Tryd.underlying46 (by kernel_rfl) ad2 (by omega))
      · exact opOb_ld rfl rfl (OpK.tmp rfl) (fun w' hb => run_ld1 w' (ad2.add (j * 1)) _ .u64 _ (HCL2.out w' hb j (by omega)) Tryd.underlying25)
      · exact opOb_neSame .u64 ((x j : Nat) : Int) rfl rfl (OpK.tmp rfl) (OpK.tmp rfl)
      · intro w' hb
        simp only [fin, SF.is, forall_eq]
        simp only [Act.put, List.setIfInBounds_toArray, List.set_cons_succ, List.set_cons_zero]
        have hend := Lib.hid (HW.out.trans (hb.mono HW.out.size))
        clear hb
        go_wp2_with fail
        go_roundw
        case rel => exact ⟨j + 1, by go_num, by omega, hend.out⟩
        case measure => simp [intOf]; omega
    · go_wp2_with fail
      go_ret
      exact ⟨rfl, HW.out⟩
end Go.Proofs.YtjmbgdldnnmipaaDoor
/- pharoslaw12.awake. (Printed by a program of mine.) -/
namespace Go.Proofs.YtjmbgdldnnmipaaDoor
set_option maxRecDepth 40000
open Go.RowKit
namespace ShufAwake
theorem run_bs3_64 (w : World) : (Instr.buildSlice 46 3 #[(0, .int .u64 5), (1, .int .u64 6), (2, .int .u64 7)]).run Tryd.prog w = .ok (.slice (some ⟨w.heap.size, 0, none⟩) 3 3) (w.alloc (.cells #[.int .u64 5, .int .u64 6, .int .u64 7] 25)) := by simp [go_sem]
theorem cs567 : ∀ i, i < 3 → (#[Value.int .u64 5, .int .u64 6, .int .u64 7] : Array Value)[i]? = some (u64v (fun i => 5 + i) i) := fun i hi => by
  rcases (show i = 0 ∨ i = 1 ∨ i = 2 by omega) with rfl | rfl | rfl <;> rfl
theorem wpList_bs567 {ops : Array Oper} {rest : List Oper} {o : Oper} {a : Act} {w w0 : World} {Q : Exit → Act → World → Prop} {rows : List RowSpec} (hgd : o.guard = none) (ho : o.op = .buildSlice 46 3 #[(0, .const (.int .u64 5)), (1, .const (.int .u64 6)), (2, .const (.int .u64 7))]) (h : HS w0 w rows)
    (hK : ∀ b w', w0.heap.size ≤ b → HS w0 w' (⟨b, 25, 3, u64v fun i => 5 + i⟩ :: rows) → wpList Tryd.prog ops Q rest (a.put o.dst (.slice (some ⟨b, 0, none⟩) 3 3)) w') : wpList Tryd.prog ops Q (o :: rest) a w :=
  wpList_plain hgd fun _ hK' => by
    have hrun : (execOp a.eval o).run Tryd.prog w = .ok (.value (.slice (some ⟨w.heap.size, 0, none⟩) 3 3)) (w.alloc (.cells #[.int .u64 5, .int .u64 6, .int .u64 7] 25)) := by
      have h0 := run_bs3_64 w
      unfold execOp
      rw [ho]
      simp only [List.map_toArray, List.map_cons, List.map_nil, Act.eval]
      simp [h0]
    unfold Oper.wp
    rw [hrun]
    exact hK' _ _ (hK _ _ h.size (h.alloc _ 25 3 (u64v fun i => 5 + i) rfl cs567))
end ShufAwake
open ShufAwake in
set_option maxHeartbeats 8000000 in
theorem awake12_any (w : World) (hp : ShaPkg w) : Calls Tryd.prog 29 #[] w fun e w' => e = .returned (.bool true) ∧ Below w.heap.size w w' := by
  have HP := Lib.hid hp
  have HS0 := Lib.hid (HS.nil w)
  obtain ⟨p0, hp0⟩ : ∃ p, p = placeN (fun _ => 0) 3 0 := ⟨_, rfl⟩
  obtain ⟨p1, hp1⟩ : ∃ p, p = placeN (fun _ => 0) 3 1 := ⟨_, rfl⟩
  obtain ⟨p2, hp2⟩ : ∃ p, p = placeN (fun _ => 0) 3 2 := ⟨_, rfl⟩
  have hl0 : p0 < 3 := by rw [hp0]; exact place_lt (by omega)
  have hl1 : p1 < 3 := by rw [hp1]; exact place_lt (by omega)
  have hl2 : p2 < 3 := by rw [hp2]; exact place_lt (by omega)
  have h01 : p0 ≠ p1 := by rw [hp0, hp1]; exact fun h => absurd (place_inj (by omega) (by omega) h) (by omega)
  have h02 : p0 ≠ p2 := by rw [hp0, hp2]; exact fun h => absurd (place_inj (by omega) (by omega) h) (by omega)
  have h12 : p1 ≠ p2 := by rw [hp1, hp2]; exact fun h => absurd (place_inj (by omega) (by omega) h) (by omega)
  have HV := Lib.hid (show ∀ i, i < 3 → placeN (fun _ => 0) 3 i = if i = 0 then p0 else if i = 1 then p1 else p2 from fun i hi => by
    rcases (show i = 0 ∨ i = 1 ∨ i = 2 by omega) with rfl | rfl | rfl
    · rw [if_pos rfl]; exact hp0.symm
    · rw [if_neg (by omega), if_pos rfl]; exact hp1.symm
    · rw [if_neg (by omega), if_neg (by omega)]; exact hp2.symm)
  clear hp hp0 hp1 hp2
  go_enter Tryd.func29, Tryd.ntmps29
  go_upto_region 3 with (first
    | (refine wpList_bs567 rfl rfl HS0.out ?_; intro b6 w1 hb6 hs; have HS1 := Lib.hid hs; clear hs)
    | (refine wpList_build_as rfl 23 #[] rfl [] rfl (arr 32 (u8v fun _ => 0)) (by kernel_rfl) ?_)
    | (go_at_call 30; refine (list_ok 3 3 (some ⟨b6, 0, none⟩) (fun i => 5 + i) (fun _ => 0) (fun _ => by omega) _ (Rd.of_row (HS1.out.row 0 rfl) (Nat.le_refl _) (HS1.out.lt 0 rfl)) (by omega) (fun h => by cases h) (HP.out.below (HS1.out.out (by simp; omega)))).mono ?_; rintro e w2 ⟨A1, c1, rfl, ho, hb⟩; have HO2 := Lib.hid ho; have HS2 := Lib.hid (HS1.out.below hb); clear ho hb)
    | (go_at_call 33; refine (place_no (fun _ => 0) 0 0 _ (.inr (by omega))).mono ?_; rintro e wa ⟨rfl, hb⟩; have HO := Lib.hid (HO2.out.all hb); have HS3 := Lib.hid (HS2.out.below hb); clear hb))
  obtain ⟨ad, hA, _, _⟩ := HO.out.rd (show 0 < 3 * 1 by omega)
  subst hA
  have HC : Hid (∀ w', Below wa.heap.size wa w' → ∀ i, i < 3 → w'.cell? (ad.add (i * 1)) = some (.int .u64 ((5 + (if i = 0 then p0 else if i = 1 then p1 else p2) : Nat) : Int))) := Lib.hid (fun w' hb i hi => by
    rw [Nat.mul_one, (HO.out.rd.below hb).cells (show i < 3 * 1 by omega)]
    exact congrArg (fun m : Nat => some (Value.int .u64 ((5 + m : Nat) : Int))) (HV.out i hi))
  have HW := Lib.hid (HS3.out.out (by simp; omega))
  refine wp_region_facts (B := wa.heap.size) (w0 := wa) [SF.is (.int .i64 0), SF.is (.bool true), SF.is (.bool true), SF.is (.slice (some ad) (3) (c1)), SF.is (.int .i64 3), SF.is (.bool true), SF.is (.bool true), SF.is (.bool true), SF.is (.slice (some ad) (3) (c1)), SF.is (.pointer (some (ad.add (0 * 1)))), SF.is (.int .u64 ((5 + p0 : Nat) : Int)), SF.is (.slice (some ad) (3) (c1)), SF.is (.pointer (some (ad.add (1 * 1)))), SF.is (.int .u64 ((5 + p1 : Nat) : Int)), SF.is (.int .u64 ((5 + p0 + (5 + p1) : Nat) : Int)), SF.is (.slice (some ad) (3) (c1)), SF.is (.pointer (some (ad.add (2 * 1)))), SF.is (.int .u64 ((5 + p2 : Nat) : Int)), SF.is (.int .u64 18), SF.is (.bool true), SF.is (.bool true), SF.is (.bool true), SF.is (.int .i64 1), SF.is (.bool true), SF.is (.bool true), SF.is (.bool true)] (by kernel_rfl) (by kernel_rfl) rfl (Nat.le_refl _) (Below.refl _ _) ⟨?_, ?_, ?_, ?_, ?_, ?_, ?_, ?_, ?_, ?_, ?_, ?_, ?_, ?_, ?_, ?_, ?_, ?_, ?_, ?_, ?_, ?_, ?_, ?_, ?_, ?_, trivial⟩ ?_
  · exact (opOb_move _ rfl (.inl rfl) rfl)
  · exact opOb_eqInt .i64 (0) (0) true Tryd.underlying29 (by simp) rfl rfl (OpK.tmp rfl) OpK.const
  · exact (opOb_move _ rfl (.inl rfl) rfl)
  · exact opOb_on 18 rfl rfl ((opOb_move _ rfl (.inl rfl) rfl))
  · exact opOb_on 18 rfl rfl (opOb_len Tryd.underlying46 rfl rfl (OpK.tmp rfl))
  · exact opOb_on 18 rfl rfl (opOb_eqInt .i64 (3) (3) true Tryd.underlying3 (by simp) rfl rfl (OpK.tmp rfl) OpK.const)
  · exact opOb_pickT rfl rfl rfl (OpK.tmp rfl)
  · exact (opOb_move _ rfl (.inl rfl) rfl)
  · exact opOb_on 23 rfl rfl ((opOb_move _ rfl (.inl rfl) rfl))
  · exact opOb_on 23 rfl rfl (opOb_idx rfl rfl (OpK.tmp rfl) OpK.const (fun w => run_idxZ (z := 1) (k := 0) w Tryd.underlying46 (by kernel_rfl) ad (by omega)))
  · exact opOb_on 23 rfl rfl (opOb_ld rfl rfl (OpK.tmp rfl) (fun w' hb => run_ld1 w' (ad.add (0 * 1)) _ .u64 _ (HC.out w' hb 0 (by omega)) Tryd.underlying25))
  · exact opOb_on 23 rfl rfl ((opOb_move _ rfl (.inl rfl) rfl))
  · exact opOb_on 23 rfl rfl (opOb_idx rfl rfl (OpK.tmp rfl) OpK.const (fun w => run_idxZ (z := 1) (k := 1) w Tryd.underlying46 (by kernel_rfl) ad (by omega)))
  · exact opOb_on 23 rfl rfl (opOb_ld rfl rfl (OpK.tmp rfl) (fun w' hb => run_ld1 w' (ad.add (1 * 1)) _ .u64 _ (HC.out w' hb 1 (by omega)) Tryd.underlying25))
  · exact opOb_on 23 rfl rfl (opOb_bin rfl rfl rfl (OpK.tmp rfl) (OpK.tmp rfl) (fun w => ShufFn.addU (5 + p0) (5 + p1) w (by omega)))
  · exact opOb_on 23 rfl rfl ((opOb_move _ rfl (.inl rfl) rfl))
  · exact opOb_on 23 rfl rfl (opOb_idx rfl rfl (OpK.tmp rfl) OpK.const (fun w => run_idxZ (z := 1) (k := 2) w Tryd.underlying46 (by kernel_rfl) ad (by omega)))
  · exact opOb_on 23 rfl rfl (opOb_ld rfl rfl (OpK.tmp rfl) (fun w' hb => run_ld1 w' (ad.add (2 * 1)) _ .u64 _ (HC.out w' hb 2 (by omega)) Tryd.underlying25))
  · exact opOb_on 23 rfl rfl (opOb_bin rfl rfl rfl (OpK.tmp rfl) (OpK.tmp rfl) (fun w => (ShufFn.addU (5 + p0 + (5 + p1)) (5 + p2) w (by omega)).trans (by rw [show 5 + p0 + (5 + p1) + (5 + p2) = 18 by omega]; rfl)))
  · exact opOb_on 23 rfl rfl (opOb_eqInt .u64 (18) (18) true Tryd.underlying25 (by simp) rfl rfl (OpK.tmp rfl) OpK.const)
  · exact opOb_pickT rfl rfl rfl (OpK.tmp rfl)
  · exact (opOb_move _ rfl (.inl rfl) rfl)
  · exact opOb_on 37 rfl rfl ((opOb_move _ rfl (.inl rfl) rfl))
  · exact opOb_on 37 rfl rfl (opOb_eqInt .i64 (1) (1) true Tryd.underlying29 (by simp) rfl rfl (OpK.tmp rfl) OpK.const)
  · exact opOb_pickT rfl rfl rfl (OpK.tmp rfl)
  · exact (opOb_move _ rfl (.inr rfl) rfl)
  · intro w' hb
    simp only [fin, SF.is, forall_eq]
    simp only [Act.put, List.setIfInBounds_toArray, List.set_cons_succ, List.set_cons_zero]
    have hend := Lib.hid (HW.out.trans (hb.mono HW.out.size))
    clear hb
    go_wp2_with fail
    go_ret
    exact ⟨rfl, hend.out⟩
end Go.Proofs.YtjmbgdldnnmipaaDoor
/- A new variable in a region in which rows are taken over. -/
namespace Go.Proofs.YtjmbgdldnnmipaaDoor
set_option maxRecDepth 40000
open Go.RowKit
def footP : Value → Option Nat
  | .pointer (some a) => some a.block
  | _ => none
def OF.new (base : Nat) (t : TypeId) (n : Nat) (f : Nat → Value) : OF :=
  ⟨fun v w => ∃ b, v = .pointer (some ⟨b, 0, none⟩) ∧ base ≤ b ∧ w.rowIs b t n f, footP,
    fun _ _ _ row ⟨b, e1, h1, h⟩ hg hne => ⟨b, e1, h1, h.of_block (hg.block b h.lt (fun er => hne b (by rw [e1]; rfl) er.symm))⟩,
    fun _ _ b ⟨b', e1, _, h⟩ hf => by subst e1; injection hf with hf; subst hf; exact h.lt⟩
section
variable {P : Program} {ops : Array Oper} {B : Nat} {w0 : World} {o : Oper} {lk : Tmp → OF}
theorem opObO_new (base : Nat) {t : TypeId} (hg : o.guard = none) (hop : o.op = .alloc t) (cs : Array Value) (hz : (P.info? t).bind (·.zero) = some (.agg cs)) (n : Nat) (f : Nat → Value) (hn : cs.size = n) (hc : ∀ i, i < n → cs[i]? = some (f i)) (hb : base ≤ w0.heap.size) : opObO P ops B w0 o (OF.new base t n f) lk none :=
  opObO_of hg fun a w hbel hf => by
    have hr : (Instr.alloc t true (.tuple #[])).run P w = .ok (.pointer (some ⟨w.heap.size, 0, none⟩)) (w.alloc (.cells cs t)) := by
      cases hq : P.info? t with
      | none => rw [hq] at hz; simp at hz
      | some i =>
        rw [hq] at hz
        simp at hz
        simp [Instr.alloc, zeroValue, typeInfo, hq, hz, newVar, Value.cells, go_sem]
    unfold Oper.wp execOp
    simp only [hop, Sem.run_bind, hr, Result.andThen_ok, Sem.run_pure]
    have h0 := (HS.nil w).alloc cs t n f hn hc
    have hbw := h0.out (by simp)
    exact ⟨_, none, rfl, ⟨w.heap.size, rfl, Nat.le_trans hb hbel.size, h0.row 0 rfl⟩, ⟨hbw.os, hbw.tape, hbw.output, hbw.size, fun k hk _ => hbw.block k hk⟩, (fun b hb => by cases hb), (fun b hb => by injection hb with hb; subst hb; exact .inl (Nat.le_refl _))⟩
end
end Go.Proofs.YtjmbgdldnnmipaaDoor
