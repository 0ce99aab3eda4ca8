/- Part 15 of what the proof of SignRoots stands on: HashDone, HashBytes, TreeTop, Build3, SignOf. -/
import Derived.Test.YtecgogeebponlaaDoorGSignRoots14
import Derived.Test.YtecgogeebponlaaDoorGSignRoots10
import Derived.ScopeJumps
import Derived.Test.YtecgogeebponlaaDoorGSignRoots13
import Derived.Test.YtecgogeebponlaaDoorGSignRoots12
import Derived.Test.YtecgogeebponlaaDoorGSignRoots11
import Derived.Test.YtecgogeebponlaaDoorGSignRoots7
/- (*wire.Hash).Done: the root of all chunks that were gathered. (Printed by a program of mine.) -/
namespace Go.Proofs.YtecgogeebponlaaDoor
set_option maxRecDepth 40000
open Go.RowKit
theorem wp_scope_two' {P : Program} {a : Act} {w : World} {Q : Exit → Act → World → Prop} {c R : Code} (l : Nat) (J : Act → World → Prop) (μ : Act → World → Nat) (hf : findLabel c l = some (.seq .skip R))
    (pass : ∀ a w, J a w → R.wp P (Exit.jump l (fun a' w' => J a' w' ∧ μ a' w' < μ a w) Q) a w)
    (first : (∀ a w, J a w → R.wp P (Exit.jump l J Q) a w) → c.wp P (Exit.jump l J Q) a w) : (Code.scope c).wp P Q a w := by
  refine wp_scope_jumps l J μ hf (first fun a w h => wp_mono (pass a w h) ?_) fun a w h => wp_seq (wp_skip (pass a w h))
  intro e a' w' he
  cases e with
  | goto l' => exact ⟨he.1, he.2.1⟩
  | _ => exact he
theorem ShaPkg.belowB {w w' : World} {B : Nat} (h : ShaPkg w) (hB : 0 < B ∧ 1 < B) (hb : Below B w w') : ShaPkg w' := h.keep fun b _ he => hb.block b (by rcases he with rfl | rfl; exact hB.1; exact hB.2)
theorem OwnZ.atSome {w : World} {base z n c : Nat} {e : TypeId} {A : Option Addr} {f : Nat → Value} (h : OwnZ w base e z A n c f) (hn : 0 < n) : ∃ bl, A = some ⟨bl, 0, none⟩ := by
  obtain ⟨g, cap, hv, hb, hlt⟩ := World.ownsRow.form h hn
  exact ⟨g, by injection hv⟩
namespace HashDone
theorem ent_two (vs : Array Value) (w : World) : (callFunc 29 vs).run Tryd.prog w = .ok (.enter 29 vs) w := by kernel_rfl
/-- The first j chunks are those of the level above already. -/
def part (j : Nat) (X : Nat → Nat) : Nat → Nat := fun i => if i < j * 32 then lvl X i else X i
theorem lvl_at (X : Nat → Nat) (j q : Nat) (hq : q < 32) : lvl X (j * 32 + q) = shaB (catN 32 (fun q => X (2 * j * 32 + q)) (fun q => X ((2 * j + 1) * 32 + q))) 64 q := by
  unfold lvl
  rw [show (j * 32 + q) / 32 = j by omega, show (j * 32 + q) % 32 = q by omega]
theorem part_step (X : Nat → Nat) (j q : Nat) : (if j * 32 ≤ q ∧ q < j * 32 + 32 then shaB (catN 32 (fun q => X (2 * j * 32 + q)) (fun q => X ((2 * j + 1) * 32 + q))) 64 (q - j * 32) else part j X q) = part (j + 1) X q := by
  unfold part
  by_cases h : j * 32 ≤ q ∧ q < j * 32 + 32
  · rw [if_pos h, if_pos (by omega), ← lvl_at X j (q - j * 32) (by omega), show j * 32 + (q - j * 32) = q by omega]
  · rw [if_neg h]
    by_cases h1 : q < j * 32
    · rw [if_pos h1, if_pos (by omega)]
    · rw [if_neg h1, if_neg (by omega)]
theorem lvl_lt (X : Nat → Nat) (i : Nat) : lvl X i < 256 := shaB_lt _ _ _
/-- The list's row where j chunks are done. -/
def G (m : Nat) (X : Nat → Nat) (F : Nat → Value) (j : Nat) : Nat → Value := fun i => if i < 2 * m * 32 then u8v (part j X) i else F i
theorem g_at {m j k i : Nat} {X : Nat → Nat} {F : Nat → Value} (h : j ≤ k) (hk : k < 2 * m) (hi : i < 32) : G m X F j (k * 32 + i) = u8v (fun q => X (k * 32 + q)) i := by
  unfold G part
  rw [if_pos (by omega)]
  simp only [u8v]
  rw [if_neg (by omega)]
theorem g_step {m j N : Nat} {X : Nat → Nat} {F : Nat → Value} (hj : j < m) : ∀ q, q < N → (if j * 32 ≤ q ∧ q < j * 32 + 32 then u8v (shaB (catN 32 (fun q => X (2 * j * 32 + q)) (fun q => X ((2 * j + 1) * 32 + q))) 64) (q - j * 32) else G m X F j q) = G m X F (j + 1) q := fun q _ => by
  have h := part_step X j q
  unfold G
  by_cases h1 : q < 2 * m * 32
  · rw [if_pos h1, if_pos h1]
    simp only [u8v]
    rw [← h]
    split <;> rfl
  · rw [if_neg h1, if_neg h1, if_neg (by omega)]
theorem g_zero {m N : Nat} {X : Nat → Nat} {F : Nat → Value} (hF : ∀ i, i < 2 * m * 32 → F i = u8v X i) : ∀ i, i < N → F i = G m X F 0 i := fun i _ => by
  unfold G part
  by_cases h1 : i < 2 * m * 32
  · rw [if_pos h1, hF i h1]; simp only [u8v]; rw [if_neg (by omega)]
  · rw [if_neg h1]
theorem g_end {m : Nat} {X : Nat → Nat} {F : Nat → Value} : ∀ i, i < m * 32 → G m X F m i = u8v (lvl X) i := fun i h => by
  unfold G part
  rw [if_pos (by omega)]
  simp only [u8v]
  rw [if_pos h]
theorem quo2 (m : Nat) (h2 : m ≤ 4611686018427387903) (w : World) : (binOp .quo 3 (.int .i64 ((2 * m : Nat) : Int)) (.int .i64 2)).run Tryd.prog w = .ok (.int .i64 (m : Int)) w := by
  simp [go_sem, IntKind.wrap, IntKind.bits, IntKind.signed]
  omega
theorem and1 (m : Nat) (h1 : 1 ≤ m) (h2 : m ≤ 1099511627776) (w : World) : (binOp .and 3 (.int .i64 (m : Int)) (.int .i64 ((m : Int) - 1))).run Tryd.prog w = .ok (.int .i64 ((m &&& (m - 1) : Nat) : Int)) w := by
  have e : ((m : Int) - 1) = ((m - 1 : Nat) : Int) := by omega
  rw [e, ← i64_and m (m - 1) (by omega) (by omega)]
  simp [go_sem]
theorem and0 (m : Nat) (h1 : 1 ≤ m) (h2 : m ≤ 1099511627776) (h : m &&& (m - 1) = 0) (w : World) : (binOp .and 3 (.int .i64 (m : Int)) (.int .i64 ((m : Int) - 1))).run Tryd.prog w = .ok (.int .i64 0) w := by
  have := and1 m h1 h2 w
  rw [h] at this
  exact this
theorem built0 : Tryd.prog.built 24 [] = some (arr 32 (u8v fun _ => 0)) := by kernel_rfl
theorem pad_step {n m : Nat} {x : Nat → Nat} (h : n ≤ m) : ∀ i, i < (m + 1) * 32 → catF (m * 32) (u8v (padN (n * 32) x)) (u8v fun _ => 0) i = u8v (padN (n * 32) x) i := fun i _ => by
  unfold catF
  by_cases h1 : i < m * 32
  · rw [if_pos h1]
  · rw [if_neg h1]; simp only [u8v, padN]; rw [if_neg (by omega)]
/-- At the label: a full tree's chunks, whose root is R. -/
def J (w : World) (B base g : Nat) (R : Nat → Nat) (a : Act) (wr : World) : Prop := ∃ (d p c b2 bl : Nat) (X : Nat → Nat) (F : Nat → Value) (u1 u5 u6 u7 u8 u9 u10 u11 u12 u13 u14 u15 u16 u17 u18 u19 u20 u21 u22 u23 u24 u25 u26 u27 u28 u29 u30 u31 u32 u33 u34 u35 u36 u37 u38 u39 u40 u41 u42 u43 u44 u45 u46 u47 u48 u49 u50 u51 u52 u53 u54 u55 u56 u57 u58 u59 u60 u61 u62 u63 : Value),
  a = ⟨#[.pointer (some ⟨g, 0, none⟩), u1, .pointer (some ⟨b2, 0, none⟩), .int .i64 0, .slice (some ⟨bl, 0, none⟩) p c, u5, u6, u7, u8, u9, u10, u11, u12, u13, u14, u15, u16, u17, u18, u19, u20, u21, u22, u23, u24, u25, u26, u27, u28, u29, u30, u31, u32, u33, u34, u35, u36, u37, u38, u39, u40, u41, u42, u43, u44, u45, u46, u47, u48, u49, u50, u51, u52, u53, u54, u55, u56, u57, u58, u59, u60, u61, u62, u63], []⟩ ∧ p = 2 ^ d ∧ p ≤ c ∧ c ≤ 9223372036854775807 ∧ (∀ i, X i < 256) ∧ (∀ i, i < 32 → fullN d X i = R i) ∧ (∀ i, i < p * 32 → F i = u8v X i) ∧
  wr.rowIs b2 24 32 (u8v fun _ => 0) ∧ wr.rowIs bl 24 (c * 32) F ∧ b2 ≠ bl ∧ w.heap.size ≤ b2 ∧ base ≤ bl ∧ Below B w wr
/-- How many chunks there are. -/
def mu (a : Act) : Nat := match a.tmps.getD 4 undef with | .slice _ n _ => n | _ => 0
end HashDone
open HashDone in
set_option maxRecDepth 100000 in
set_option maxHeartbeats 8000000 in
theorem done_look (B base g n : Nat) (x : Nat → Nat) (w : World) (hH : HashIs w base g n x) (hx : ∀ i, x i < 256) (hBb : B ≤ base) (hBg : B ≤ g) (hbw : base ≤ w.heap.size) (h1 : 1 ≤ n) (hn : n ≤ 1099511627776) (hp : ShaPkg w) (hpB : 0 < B ∧ 1 < B) :
    Calls Tryd.prog 34 #[.pointer (some ⟨g, 0, none⟩)] w fun e w' => e = .returned (.tuple #[rootV (treeN (dep n) n x), .int .i64 0]) ∧ Below B w w' := by
  obtain ⟨R, hRR⟩ : ∃ R, R = treeN (dep n) n x := ⟨_, rfl⟩
  rw [← hRR]
  obtain ⟨N, hN⟩ : ∃ N, N = 2 ^ dep n := ⟨_, rfl⟩
  have hRf : ∀ i, i < 32 → fullN (dep n) (padN (n * 32) x) i = R i := fun i hi => by rw [hRR]; exact (tree_full (dep n) n x (dep_ge n) i hi).symm
  obtain ⟨A, c, hr, ho, hne⟩ := hH
  have HO := Lib.hid ho
  have HNe := Lib.hid hne
  have HP := Lib.hid hp
  have HPB := Lib.hid hpB
  have HX := Lib.hid hx
  have HR := Lib.hid hRf
  have HS0 := Lib.hid ((HS.nil w).take hr (fun r hr => by cases hr))
  have hd40 : dep n ≤ 40 := dep_le (k := 40) (by omega)
  have hN1 : n ≤ N := by rw [hN]; exact dep_ge n
  have hN2 : N ≤ 1099511627776 := by rw [hN]; exact Nat.pow_le_pow_right (n := 2) (by omega) hd40
  have HN := Lib.hid hN
  have HL := Lib.hid (fun m (ha : n ≤ m) (hb : m ≤ N) => land_dep (n := n) (m := m) h1 ha (by rw [← hN]; exact hb))
  have hBw : B ≤ w.heap.size := Nat.le_trans hBb hbw
  have hgl := hr.lt
  clear hr ho hne hp hpB hx hRR hRf hN
  go_enter Tryd.func34, Tryd.ntmps34
  go_wp2_with (first
    | (refine wpList_allocL rfl 24 2 rfl rfl HS0.out (Array.replicate 32 (.int .u8 0)) (by kernel_rfl) 32 (u8v fun _ => 0) (by rfl) (zero_at 32 (.int .u8 0)) ?_; intro b2 w2 hb2 hc2 hs2; have c1 : w2.cell? ⟨g, 1, none⟩ = some (.int .i64 0) := hs2.cell 1 1 rfl (by show 1 < 2; omega); have c0 : w2.cell? ⟨g, 0, none⟩ = some (.slice A n c) := hs2.cell 1 0 rfl (by show 0 < 2; omega); have HS2 := Lib.hid hs2; clear hs2))
  refine wp_scope_two' 0 (J w B base g R) (fun a _ => mu a) rfl ?_ ?_
  · rintro a wp0 ⟨d, p, c, b2, bl, X, F, u1, u5, u6, u7, u8, u9, u10, u11, u12, u13, u14, u15, u16, u17, u18, u19, u20, u21, u22, u23, u24, u25, u26, u27, u28, u29, u30, u31, u32, u33, u34, u35, u36, u37, u38, u39, u40, u41, u42, u43, u44, u45, u46, u47, u48, u49, u50, u51, u52, u53, u54, u55, u56, u57, u58, u59, u60, u61, u62, u63, rfl, hd, hdc, hc, hXl, hfull, hF, hr2, hrl, hne, hb2, hbl, hW⟩
    have HXl := Lib.hid hXl
    have HFl := Lib.hid hfull
    have HF := Lib.hid hF
    have HRl := Lib.hid hrl
    have HW0 := Lib.hid hW
    have hsz0 := hW.size
    have HT := Lib.hid (((HS.nil wp0).take hrl (fun r hr => by cases hr)).take hr2 (fun r hr => by simp at hr; rw [hr]; exact fun e => hne e.symm))
    clear hXl hfull hF hr2 hrl hW HS2 HS0 c0 c1 HO HNe HX HR HL HN
    cases d with
    | zero =>
      obtain rfl : p = 1 := hd
      go_wp2_with (first
        | (refine wpList_load_rd rfl 24 _ rfl 32 _ Tryd.underlying24 rfl (by kernel_rfl) ⟨bl, 0, none⟩ rfl (u8v X) (fun q hq => by rw [add_lit0]; exact (HRl.out.cell (by omega)).trans (congrArg some (HF.out q (by omega)))) ?_)
        | (refine wpList_storeH rfl 24 (.tmp 2) (.tmp 63) rfl HT.out 0 rfl (u8v X) rfl rfl (by kernel_rfl) (fun _ _ => rfl) ?_; intro wy hs; have HY := Lib.hid hs; clear hs))
      simp only [Exit.jump]
      exact ret_rowTmp rfl (HY.out.row 0 rfl) _ (.int .i64 0) rfl rfl Tryd.underlying24 rfl (by kernel_rfl) rfl ⟨by rw [show arr 32 (u8v X) = arr 32 (u8v R) from arr_congr fun i hi => congrArg (fun k : Nat => Value.int .u8 (k : Int)) (HFl.out i hi)], HW0.out.trans (HY.out.old (by omega) (by simp; omega))⟩
    | succ d =>
      obtain ⟨m, hm⟩ : ∃ m, m = 2 ^ d := ⟨_, rfl⟩
      obtain rfl : p = 2 * m := by rw [hd, hm, Nat.pow_succ]; omega
      have hm0 : 1 ≤ m := by rw [hm]; exact Nat.pow_pos (by omega)
      have HM := Lib.hid hm
      have hmc : 2 * m ≤ c := hdc
      have HT0 := Lib.hid (HT.out.congr 1 rfl (g := G m X F 0) (g_zero HF.out))
      clear hm hd HT HF
      go_wp2_with (first
        | (refine wpList_as rfl 36 rfl (.int .i64 (m : Int)) ?_ ?_; (· exact ex_bin rfl rfl rfl rfl (fun w => quo2 m (by omega) w) _)))
      go_loopw [37] (fun t wr => ∃ j : Nat, t = .int .i64 (j : Int) ∧ j ≤ m ∧ HS wp0 wr [⟨b2, 24, 32, u8v fun _ => 0⟩, ⟨bl, 24, c * 32, G m X F j⟩]) (fun t _ => m - (intOf t).toNat)
      case atStart => exact ⟨0, rfl, by omega, HT0.out⟩
      case round =>
        clear HT0 HRl
        obtain ⟨j, rfl, hj, hs⟩ := hrel
        have HSq := Lib.hid hs
        have HWr := Lib.hid (HW0.out.trans (hs.old (B := B) (by omega) (by simp; omega)))
        have HSz := Lib.hid (show B ≤ wr.heap.size by have := hs.size; omega)
        clear hs
        by_cases hjm : j < m
        · go_wp2_with fail
          refine wp_region_factsS (l := [_, _, _, _, _, _, _, _, _, _, _, _, _, _, _]) (tl := []) (B := wr.heap.size) (w0 := wr) [SF.is (.slice (some ⟨bl, 0, none⟩) (2 * m) (c)), SF.is (.int .i64 ((j : Nat) : Int)), SF.is (.slice (some ⟨bl, 0, none⟩) (2 * m) (c)), SF.is (.int .i64 ((j : Nat) : Int)), SF.is (.int .i64 ((2 * j : Nat) : Int)), SF.is (.pointer (some ⟨bl, 2 * j * 32, none⟩)), SF.is (rootV (fun q => X (2 * j * 32 + q))), SF.is (.slice (some ⟨bl, 0, none⟩) (2 * m) (c)), SF.is (.int .i64 ((j : Nat) : Int)), SF.is (.int .i64 ((2 * j : Nat) : Int)), SF.is (.int .i64 ((2 * j + 1 : Nat) : Int)), SF.is (.pointer (some ⟨bl, (2 * j + 1) * 32, none⟩)), SF.is (rootV (fun q => X ((2 * j + 1) * 32 + q))), SF.is (rootV (shaB (catN 32 (fun q => X (2 * j * 32 + q)) (fun q => X ((2 * j + 1) * 32 + q))) 64)), SF.is (.pointer (some ⟨bl, j * 32, none⟩))] (by kernel_rfl) (by kernel_rfl) rfl (Nat.le_refl _) (Below.refl _ _) ⟨?_, ?_, ?_, ?_, ?_, ?_, ?_, ?_, ?_, ?_, ?_, ?_, ?_, ?_, ?_, trivial⟩ ?_
          · exact (opOb_move _ rfl (.inl rfl) rfl)
          · exact (opOb_move _ rfl (.inl rfl) rfl)
          · exact (opOb_move _ rfl (.inl rfl) rfl)
          · exact (opOb_move _ rfl (.inl rfl) rfl)
          · exact opOb_nmul 2 j (by omega) rfl rfl OpK.const (OpK.tmp rfl)
          · exact opOb_idx rfl rfl (OpK.tmp rfl) (OpK.tmp rfl) (fun w => (run_idxZ (z := 32) w Tryd.underlying32 (by kernel_rfl) ⟨bl, 0, none⟩ (by omega)).trans (by rw [add_lit0]))
          · exact opOb_ld rfl rfl (OpK.tmp rfl) (fun w' hb => run_loadAt_part w' bl (2 * j * 32) 32 24 _ (u8v (fun q => X (2 * j * 32 + q))) (fun i hi => ((row_below (HSq.out.row 1 rfl) hb (HSq.out.row 1 rfl).lt).cell (i := 2 * j * 32 + i) (show 2 * j * 32 + i < c * 32 by omega)).trans (congrArg some (g_at (by omega) (by omega) hi))) Tryd.underlying24 rfl (by kernel_rfl))
          · exact (opOb_move _ rfl (.inl rfl) rfl)
          · exact (opOb_move _ rfl (.inl rfl) rfl)
          · exact opOb_nmul 2 j (by omega) rfl rfl OpK.const (OpK.tmp rfl)
          · exact opOb_nadd (2 * j) 1 (by omega) rfl rfl (OpK.tmp rfl) OpK.const
          · exact opOb_idx rfl rfl (OpK.tmp rfl) (OpK.tmp rfl) (fun w => (run_idxZ (z := 32) w Tryd.underlying32 (by kernel_rfl) ⟨bl, 0, none⟩ (by omega)).trans (by rw [add_lit0]))
          · exact opOb_ld rfl rfl (OpK.tmp rfl) (fun w' hb => run_loadAt_part w' bl ((2 * j + 1) * 32) 32 24 _ (u8v (fun q => X ((2 * j + 1) * 32 + q))) (fun i hi => ((row_below (HSq.out.row 1 rfl) hb (HSq.out.row 1 rfl).lt).cell (i := (2 * j + 1) * 32 + i) (show (2 * j + 1) * 32 + i < c * 32 by omega)).trans (congrArg some (g_at (by omega) (by omega) hi))) Tryd.underlying24 rfl (by kernel_rfl))
          · exact opOb_fn2 ent_two rfl rfl (OpK.tmp rfl) (OpK.tmp rfl) (fun w' hb => (two_any (fun q => X (2 * j * 32 + q)) (fun q => X ((2 * j + 1) * 32 + q)) (fun _ => HXl.out _) (fun _ => HXl.out _) w' (HP.out.belowB HPB.out (HWr.out.trans (hb.mono HSz.out)))).mono fun e w'' ⟨he, hb2⟩ => ⟨_, he, rfl, hb2⟩)
          · exact opOb_idx rfl rfl (OpK.tmp rfl) (OpK.tmp rfl) (fun w => (run_idxZ (z := 32) w Tryd.underlying32 (by kernel_rfl) ⟨bl, 0, none⟩ (by omega)).trans (by rw [add_lit0]))
          · intro w' hb
            simp only [fin, SF.is, forall_eq]
            simp only [Act.put, List.setIfInBounds_toArray, List.set_cons_succ, List.set_cons_zero]
            have hs := HSq.out.below hb
            refine wp_storeP 24 (.tmp 54) (.tmp 53) rfl hs 1 rfl (j * 32) 32 (u8v (shaB (catN 32 (fun q => X (2 * j * 32 + q)) (fun q => X ((2 * j + 1) * 32 + q))) 64)) rfl rfl (by kernel_rfl) (by omega) (fun _ _ => rfl) (G m X F (j + 1)) (g_step hjm) ?_
            clear hs hb
            intro wy hs
            have HY := Lib.hid hs
            clear hs
            simp only [seqWp, Act.put]
            go_wp2_with fail
            go_roundw
            case rel => exact ⟨j + 1, by go_num, by omega, HY.out⟩
            case measure => simp [intOf]; omega
        · obtain rfl : j = m := by omega
          go_wp2_with (first
            | (refine wpList_as rfl 59 rfl (.int .i64 (j : Int)) ?_ ?_; (· exact ex_bin rfl rfl rfl rfl (fun w => quo2 j (by omega) w) _))
            | (refine wpList_as rfl 60 rfl (.slice (some ⟨bl, 0, none⟩) j c) ?_ ?_; (· exact ex_slice rfl rfl rfl rfl (fun w => cut_toZ (z := 32) Tryd.underlying32 (by kernel_rfl) (some ⟨bl, 0, none⟩) (2 * j) c j (by omega) w) _)))
          apply wp_goto
          exact ⟨rfl, ⟨d, j, c, b2, bl, lvl X, G j X F j, _, _, _, _, _, _, _, _, _, _, _, _, _, _, _, _, _, _, _, _, _, _, _, _, _, _, _, _, _, _, _, _, _, _, _, _, _, _, _, _, _, _, _, _, _, _, _, _, _, _, _, _, _, _, _, _, _, _, _, _, rfl, HM.out, by omega, hc, lvl_lt X, fun i hi => (fullN_lvl d X i hi).symm.trans (HFl.out i hi), g_end, HSq.out.row 0 rfl, HSq.out.row 1 rfl, hne, hb2, hbl, HWr.out⟩, by simp [mu]; omega⟩
  · intro hpass
    go_wp2_with fail
    have HO2 := Lib.hid (HO.out.hs HS2.out (fun ad e => by have := HNe.out ad e; have h2 := (HO.out.base_le ad e).2; simp; omega))
    go_loopw [4] (fun t wr => ∃ (m : Nat) (A' : Option Addr) (c' : Nat), t = .slice A' m c' ∧ n ≤ m ∧ m ≤ N ∧ OwnZ wr base 24 32 A' m c' (u8v (padN (n * 32) x)) ∧ wr.rowIs b2 24 32 (u8v fun _ => 0) ∧ Below B w wr ∧ (∀ ad, A' = some ad → ad.block ≠ b2)) (fun t _ => match t with | .slice _ m _ => N - m | _ => 0)
    case atStart => exact ⟨n, A, c, rfl, Nat.le_refl _, hN1, HO2.out.congr (fun i hi => by simp only [u8v, padN]; rw [if_pos hi]), HS2.out.row 0 rfl, HS2.out.old hBw (by simp; omega), fun ad e => by have := (HO.out.base_le ad e).2; omega⟩
    case round =>
      clear HS2 HS0 HO2 c0 c1
      obtain ⟨m, A', c', rfl, hm1, hm2, hoq, hr2, hW, hne⟩ := hrel
      have HOq := Lib.hid hoq
      have HR2 := Lib.hid hr2
      have HWq := Lib.hid hW
      have HNq := Lib.hid hne
      have hsz := hW.size
      have hl := HL.out m hm1 hm2
      clear hoq hr2 hW hne
      by_cases hmN : m = N
      · subst hmN
        have h0 := hl.2 HN.out
        obtain ⟨bl, rfl⟩ := HOq.out.atSome (by omega)
        obtain ⟨F, hrl, hF, hbl⟩ := HOq.out.row
        have HRl := Lib.hid hrl
        have HF := Lib.hid hF
        have hcap := HOq.out.cap
        have hcapM : c' ≤ 9223372036854775807 := HOq.out.capM
        have hb2l : b2 ≠ bl := fun e => HNq.out _ rfl e.symm
        have hlt2 := HR2.out.lt
        clear hrl hF hl
        go_wp2_with (first
          | (refine wpList_as rfl 25 rfl (.int .i64 0) ?_ ?_; (· exact ex_bin rfl rfl rfl rfl (fun w => and0 m (by omega) (by omega) h0 w) _)))
        apply wp_label
        rename_i hk
        exact hk _ _ <| hpass _ _ ⟨dep n, m, c', b2, bl, padN (n * 32) x, F, _, _, _, _, _, _, _, _, _, _, _, _, _, _, _, _, _, _, _, _, _, _, _, _, _, _, _, _, _, _, _, _, _, _, _, _, _, _, _, _, _, _, _, _, _, _, _, _, _, _, _, _, _, _, _, _, _, _, _, _, rfl, HN.out, hcap, hcapM, padN_lt HX.out, HR.out, HF.out, HR2.out, HRl.out, hb2l, hb2, hbl, HWq.out⟩
      · have h0 := fun e => hmN (hl.1 e |>.trans HN.out.symm)
        obtain ⟨q, hq⟩ : ∃ q, q = m &&& (m - 1) := ⟨_, rfl⟩
        have HQ := Lib.hid hq
        have hq0 : ((q : Int) != 0) = true := by rw [bne_iff_ne]; intro e; exact h0 (by omega)
        clear hl h0 hq
        go_wp2_with (first
          | (refine wpList_as rfl 25 rfl (.int .i64 (q : Int)) ?_ ?_; (· rw [HQ.out]; exact ex_bin rfl rfl rfl rfl (fun w => and1 m (by omega) (by omega) w) _))
          | (refine wpList_build_as rfl 24 #[] rfl [] rfl _ built0 ?_)
          | (refine wpList_bs1 rfl Tryd.underlying32 (z := 32) (by kernel_rfl) (by omega) (by omega) (v0 := .agg (Array.replicate 32 (.int .u8 0))) (by kernel_rfl) _ rfl (u8v fun _ => 0) rfl (HS.nil _) ?_; intro b29 w29 hb29 hc29 hs29; have HS29 := Lib.hid hs29; clear hs29)
          | (at_builtin; refine wpList_appZ _ (.tmp 27) (.tmp 29) 32 base (e := 24) (z := .agg (Array.replicate 32 (.int .u8 0))) (k := 32) (bytes := 32) (by kernel_rfl) Tryd.underlying32 (by rfl) (by omega) rfl rfl (m + 1) (u8v (padN (n * 32) x)) rfl rfl (HOq.out.all (HS29.out.out (by simp; omega))) (Rd.of_row (HS29.out.row 0 rfl) (Nat.le_refl _) (HS29.out.lt 0 rfl)) (fun _ _ => rfl) rfl (pad_step hm1) ⟨by omega, by omega⟩ (by have := HS29.out.size; omega) ?_; intro A30 c30 w30 ho30 hg30 ha30; have HO30 := Lib.hid ho30; have HG30 := Lib.hid hg30; have HA30 := Lib.hid ha30; clear ho30 hg30 ha30))
        have hb29 := HS29.out.out (by simp; omega)
        have hr2a := row_below HR2.out hb29 HR2.out.lt
        have hr2b := hr2a.of_block (HG30.out.block b2 hr2a.lt (fun e => by
          cases A' with
          | none => cases e
          | some ad => injection e with e; exact HNq.out ad rfl e.symm))
        go_roundw
        case rel => exact ⟨m + 1, A30, c30, rfl, by omega, by omega, HO30.out, hr2b, below_app (HWq.out.trans (hb29.mono (by omega))) HG30.out (by have := hb29.size; omega) (fun ad e => Nat.le_trans hBb (HOq.out.base_le ad e).1), fun ad e => by
          rcases HA30.out ad e with h | h
          · cases A' with
            | none => cases h
            | some ad' => injection h with h; rw [h]; exact HNq.out ad' rfl
          · have := hr2a.lt; omega⟩
        case measure => simp; omega
end Go.Proofs.YtecgogeebponlaaDoor
/- wire.Hash: bytes as the root of their chunks; the message of a deposit. (Printed by a program of mine.) -/
namespace Go.Proofs.YtecgogeebponlaaDoor
set_option maxRecDepth 40000
open Go.RowKit
theorem HS.behind {w0 w1 w : World} {rows : List RowSpec} (hb : Below w0.heap.size w0 w1) (h : HS w1 w rows) : HS w0 w rows :=
  ⟨h.os.trans hb.os, h.tape.trans hb.tape, h.output.trans hb.output, Nat.le_trans hb.size h.size, fun k hk hr => (h.block k (Nat.lt_of_lt_of_le hk hb.size) hr).trans (hb.block k hk), h.has, h.apart⟩
/-- Rows that lay there at the start stay where all below it stays. -/
theorem HS.lowB {w0 w w' : World} {rows : List RowSpec} (h : HS w0 w rows) (hb : Below w0.heap.size w w') (hr : ∀ r ∈ rows, r.b < w0.heap.size) : HS w0 w' rows :=
  ⟨hb.os.trans h.os, hb.tape.trans h.tape, hb.output.trans h.output, Nat.le_trans h.size hb.size, fun k hk hr' => (hb.block k hk).trans (h.block k hk hr'),
    fun r hr' => row_below (h.has r hr') hb (hr r hr'), h.apart⟩
theorem hash_one {A : Option Addr} {n c : Nat} : ∀ i, i < 2 → (hashF A n c i).oneCell' = true := fun i _ => by
  unfold hashF; split <;> rfl
theorem built_hash (A : Option Addr) (n c : Nat) : Tryd.prog.built 79 [(0, .slice A n c)] = some (arr 2 (hashF A n c)) := by kernel_rfl
theorem zero_hash : (Tryd.prog.info? 79).bind (·.zero) = some (.agg (arr 2 (hashF none 0 0))) := by kernel_rfl
set_option maxHeartbeats 8000000 in
theorem hbytes_look (B base g n : Nat) (x : Nat → Nat) (w : World) (hH : HashIs w base g n x) (hBb : B ≤ base) (hBg : B ≤ g) (hbw : base ≤ w.heap.size) (hn : n ≤ 1099511627776) (m cb : Nat) (Ab : Option Addr) (y : Nat → Nat) (hy : Rd w w.heap.size Ab m (u8v y)) (hyl : ∀ i, y i < 256) (hmc : m ≤ cb) (hm1 : 1 ≤ m) (hm : m ≤ 1099511627776) (hp : ShaPkg w) (hpB : 0 < B ∧ 1 < B) :
    Calls Tryd.prog 31 #[.pointer (some ⟨g, 0, none⟩), .slice Ab m cb] w fun e w' => e = .returned (.tuple #[]) ∧ HashIs w' base g (n + 1) (catN (n * 32) x (treeN (dep (nch m)) (nch m) (padN m y))) ∧ Below B w w' := by
  obtain ⟨R, hR⟩ : ∃ R, R = treeN (dep (nch m)) (nch m) (padN m y) := ⟨_, rfl⟩
  rw [← hR]
  obtain ⟨N, hN⟩ : ∃ N, N = nch m := ⟨_, rfl⟩
  have hN1 : 1 ≤ N ∧ N ≤ 1099511627776 := by rw [hN]; unfold nch; omega
  have HRe := Lib.hid (show rootV (treeN (dep N) N (padN m y)) = rootV R by rw [hR, hN])
  have HNe := Lib.hid hN
  obtain ⟨A, c, hr, ho, hne⟩ := hH
  have HO := Lib.hid ho
  have HNe := Lib.hid hne
  have HP := Lib.hid hp
  have HY := Lib.hid hy
  have HYl := Lib.hid hyl
  have hgl := hr.lt
  have hBw : B ≤ w.heap.size := Nat.le_trans hBb hbw
  have HG := Lib.hid hr
  have hpl := hp.lt
  have HPk := Lib.hid (pack_look m cb Ab y w hy hmc (by omega))
  rw [← hN] at HPk
  clear hr ho hne hp hy hyl hR hN
  go_enter Tryd.func31, Tryd.ntmps31
  go_wp2_with (first
    | (go_at_call 43; refine HPk.out.mono ?_; rintro e w1 ⟨A8, c8, rfl, ho8, hb⟩; have HO8 := Lib.hid ho8; have HB1 := Lib.hid hb; have HG1 := Lib.hid ((HS.nil w1).take (row_below HG.out hb hgl) (fun r hr => by cases hr)); have hsz1 := hb.size; clear ho8 hb HPk)
    | (refine wpList_build_as rfl 79 #[(0, .tmp 8)] rfl [(0, .slice A8 N c8)] rfl _ (built_hash A8 N c8) ?_)
    | (refine wpList_allocL rfl 79 4 rfl rfl HG1.out _ zero_hash 2 (hashF none 0 0) (size_arr _ _) (fun i hi => arr_at _ _ i hi) ?_; intro b4 w2 hb4 hc4 hs; have HS2 := Lib.hid hs; clear hs)
    | (refine wpList_storeH rfl 79 (.tmp 4) (.tmp 9) rfl HS2.out 0 rfl (hashF A8 N c8) rfl rfl (by kernel_rfl) hash_one ?_; intro w3 hs; have HS3 := Lib.hid hs; have hsz3 := hs.size; clear hs)
    | (go_at_call 34; refine (done_look w.heap.size w.heap.size b4 N (padN m y) _ ⟨A8, c8, HS3.out.row 0 rfl, HO8.out.hs HS3.out (fun ad e => by have h2 := HO8.out.base_le ad e; simp; omega), fun ad e => by have h2 := HO8.out.base_le ad e; omega⟩ (padN_lt HYl.out) (Nat.le_refl _) (by omega) (by omega) hN1.1 hN1.2 ((HP.out.below HB1.out).belowB hpB (HS3.out.old (by omega) (by simp; omega))) hpl).mono ?_; rintro e w4 ⟨rfl, hb⟩; rw [HRe.out]; have HS4 := Lib.hid (((HS3.out.behind HB1.out).drop (show w.heap.size ≤ b4 by omega)).lowB hb (by simp; omega)); clear hb)
    | (refine wpList_allocL rfl 24 5 rfl rfl HS4.out (Array.replicate 32 (.int .u8 0)) (by kernel_rfl) 32 (u8v fun _ => 0) (by rfl) (zero_at 32 (.int .u8 0)) ?_; intro b5 w5 hb5 hc5 hs; have HS5 := Lib.hid hs; clear hs)
    | (refine wpList_storeH rfl 24 (.tmp 5) (.tmp 12) rfl HS5.out 0 rfl (u8v R) rfl rfl (by kernel_rfl) (fun _ _ => rfl) ?_; intro wa hs; have HSa := Lib.hid hs; clear hs))
  have hA : HS w wa [⟨b5, 24, 32, u8v R⟩, ⟨g, 79, 2, hashF A n c⟩] := HSa.out
  have HA := Lib.hid hA
  have hsz := hA.size
  have HOa := Lib.hid (HO.out.hs hA (fun ad e => by have := HNe.out ad e; have h2 := (HO.out.base_le ad e).2; simp; omega))
  have HWa := Lib.hid (hA.old hBw (by simp; omega))
  clear hA HS2 HS3 HS4 HS5 HSa HB1 HG1 HO8 HRe
  have hA : True := trivial
  refine ord_enter (n := 11) (by kernel_rfl) (by kernel_rfl) ?_
  have HA2 := Lib.hid HA.out.drew
  have HOa2 : Hid (OwnZ wa.drew base 24 32 A n c (u8v x)) := Lib.hid HOa.out
  have HWa2 : Hid (Below B w wa.drew) := Lib.hid ⟨HWa.out.os, HWa.out.tape, HWa.out.output, HWa.out.size, HWa.out.block⟩
  have hsz2 : w.heap.size ≤ wa.drew.heap.size := hsz
  clear HA HOa HWa hsz
  have HA := HA2
  have HOa := HOa2
  have HWa := HWa2
  have hsz := hsz2
  clear HA2 HOa2 HWa2 hsz2
  generalize wa.drew = wv at HA HOa HWa hsz ⊢
  refine ord_take (i := 0) (.pointer (some ⟨g, 0, none⟩)) rfl (by kernel_rfl) (by kernel_rfl) (by kernel_rfl) rfl (fun _ _ _ h => h) (ex_move (.inl rfl) rfl) ?_
  refine ord_take (i := 1) (.pointer (some ⟨g, 0, none⟩)) rfl (by kernel_rfl) (by kernel_rfl) (by kernel_rfl) rfl (fun _ _ _ h => h) (ex_move (.inl rfl) rfl) ?_
  refine ord_take (i := 2) (.pointer (some ⟨g, 0, none⟩)) rfl (by kernel_rfl) (by kernel_rfl) (by kernel_rfl) rfl (fun _ _ _ h => h) (ex_nil rfl rfl) ?_
  refine ord_take (i := 3) (.pointer (some ⟨g, 0, none⟩)) rfl (by kernel_rfl) (by kernel_rfl) (by kernel_rfl) rfl (fun _ _ _ h => h) (ex_fld rfl rfl (fun w => by simp [go_sem])) ?_
  simp only [Act.put, List.setIfInBounds_toArray, List.set_cons_succ, List.set_cons_zero]
  refine ord_two (i := 4) (j := 5) rfl rfl (by kernel_rfl) rfl rfl (fun K hK => ?_) (fun K hK => ?_)
  · refine wp_ex (.slice A n c) (ex_ldsl rfl rfl (ld_sl _ _ wv ((HA.out.row 1 rfl).cell (i := 0) (by show 0 < 2; omega)))) ?_
    refine hK _ _ ?_
    clear hK
    simp only [Act.put, List.setIfInBounds_toArray, List.set_cons_succ, List.set_cons_zero]
    refine ord_step (i := 5) rfl (by kernel_rfl) rfl (fun K hK => ?_)
    refine wp_ex (rootV R) (ex_ldroot (r := R) rfl rfl wv (HA.out.row 0 rfl)) ?_
    refine hK _ _ ?_
    clear hK
    simp only [Act.put, List.setIfInBounds_toArray, List.set_cons_succ, List.set_cons_zero]
    refine ord_step (i := 6) rfl (by kernel_rfl) rfl (fun K hK => ?_)
    refine wp_bs1L Tryd.underlying32 (z := 32) (by kernel_rfl) (by omega) (by omega) (v0 := .agg (Array.replicate 32 (.int .u8 0))) (by kernel_rfl) _ rfl (u8v R) rfl (HS.nil wv) ?_
    intro b21 wl hb21 _ hl
    have HL := Lib.hid hl
    clear hl
    refine hK _ _ ?_
    clear hK
    simp only [Act.put, List.setIfInBounds_toArray, List.set_cons_succ, List.set_cons_zero]
    have hwl := HL.out
    have hb := hwl.out (by simp; omega)
    have ho' := HOa.out.all hb
    have hr21 := Rd.of_row (hwl.row 0 rfl) (Nat.le_refl _) (hwl.lt 0 rfl)
    have hbw' : base ≤ wl.heap.size := Nat.le_trans hbw (Nat.le_trans hsz hb.size)
    have hwb := HWa.out.trans (hb.mono (Nat.le_trans hBw hsz))
    have hrg : wl.rowIs g 79 2 (hashF A n c) := row_below (HA.out.row 1 rfl) hb (HA.out.row 1 rfl).lt
    refine ord_step (i := 7) rfl (by kernel_rfl) rfl (fun K hK => ?_)
    refine wp_appZ wl (.tmp 18) (.tmp 20) 32 base (z := .agg (Array.replicate 32 (.int .u8 0))) (k := 32) (bytes := 32) (by kernel_rfl) Tryd.underlying32 (by rfl) (by omega) rfl (n + 1) (u8v (catN (n * 32) x R)) rfl rfl ho' hr21 (fun _ _ => rfl) rfl cat_h ⟨by omega, by omega⟩ hbw' ?_
    intro A22 c22 w22 ho22 hg22 ha22
    have hrg2 := hrg.of_block (hg22.block g hrg.lt (fun e => by
      cases A with
      | none => cases e
      | some ad => injection e with e; exact HNe.out ad rfl e.symm))
    have hw22 := below_app hwb hg22 (Nat.le_trans hBb hbw') (fun ad e => Nat.le_trans hBb (HO.out.base_le ad e).1)
    have hne22 : ∀ ad, A22 = some ad → ad.block ≠ g := fun ad e => by
      rcases ha22 ad e with h | h
      · cases A with
        | none => cases h
        | some ad' => injection h with h; rw [h]; exact HNe.out ad' rfl
      · have := hrg.lt; omega
    have HO22 := Lib.hid ho22
    clear ho' hbw' hwb hrg hg22 ha22 ho22 hb hr21 hwl
    refine hK _ _ ?_
    clear hK
    simp only [Act.put, List.setIfInBounds_toArray, List.set_cons_succ, List.set_cons_zero]
    refine ord_step (i := 8) rfl (by kernel_rfl) rfl (fun K hK => ?_)
    refine wp_ex (.pointer (some ⟨g, 0, none⟩)) (ex_nil rfl rfl _) ?_
    refine hK _ _ ?_
    clear hK
    simp only [Act.put, List.setIfInBounds_toArray, List.set_cons_succ, List.set_cons_zero]
    refine ord_step (i := 9) rfl (by kernel_rfl) rfl (fun K hK => ?_)
    refine wp_ex (.pointer (some ⟨g, 0, none⟩)) (ex_fld rfl rfl (fun w => by simp [go_sem]) _) ?_
    refine hK _ _ ?_
    clear hK
    simp only [Act.put, List.setIfInBounds_toArray, List.set_cons_succ, List.set_cons_zero]
    refine ord_step (i := 10) rfl (by kernel_rfl) rfl (fun K hK => ?_)
    refine wp_store rfl rfl (v := .slice A22 (n + 1) c22) rfl rfl (st_sl ⟨g, 0, none⟩ A22 (n + 1) c22 _ w22 (hrg2.cell (i := 0) (by show 0 < 2; omega)) (hrg2.frozen 0)) ?_
    refine hK _ _ (wpAny_done (by kernel_rfl) ?_ _)
    clear hK
    have hg := grown_setCell (World.grownBy.refl w22 (some g)) (.inl rfl) (.slice A22 (n + 1) c22) (p := ⟨g, 0, none⟩)
    have hr3 := (hrg2.set 0 (.slice A22 (n + 1) c22)).congr (g := hashF A22 (n + 1) c22) (fun i hi => by
      by_cases e : i = 0
      · subst e; rfl
      · show (if i = 0 then _ else hashF A n c i) = hashF A22 (n + 1) c22 i
        rw [if_neg e]; unfold hashF; rw [if_neg e, if_neg e])
    have ho3 := HO22.out.kept hg (fun ad e h => by injection h with h; exact hne22 ad e h)
    have hw3 := hw22.grown hg (Nat.le_trans hBw hw22.size) (fun k hk => by injection hk with hk; omega)
    go_wp2_with fail
    go_end0
    exact ⟨rfl, ⟨A22, c22, hr3, ho3, hne22⟩, hw3⟩
  · refine wp_ex (rootV R) (ex_ldroot (r := R) rfl rfl wv (HA.out.row 0 rfl)) ?_
    refine hK _ _ ?_
    clear hK
    simp only [Act.put, List.setIfInBounds_toArray, List.set_cons_succ, List.set_cons_zero]
    refine ord_two (i := 4) (j := 6) rfl rfl (by kernel_rfl) rfl rfl (fun K hK => ?_) (fun K hK => ?_)
    · refine wp_ex (.slice A n c) (ex_ldsl rfl rfl (ld_sl _ _ wv ((HA.out.row 1 rfl).cell (i := 0) (by show 0 < 2; omega)))) ?_
      refine hK _ _ ?_
      clear hK
      simp only [Act.put, List.setIfInBounds_toArray, List.set_cons_succ, List.set_cons_zero]
      refine ord_step (i := 6) rfl (by kernel_rfl) rfl (fun K hK => ?_)
      refine wp_bs1L Tryd.underlying32 (z := 32) (by kernel_rfl) (by omega) (by omega) (v0 := .agg (Array.replicate 32 (.int .u8 0))) (by kernel_rfl) _ rfl (u8v R) rfl (HS.nil wv) ?_
      intro b21 wl hb21 _ hl
      have HL := Lib.hid hl
      clear hl
      refine hK _ _ ?_
      clear hK
      simp only [Act.put, List.setIfInBounds_toArray, List.set_cons_succ, List.set_cons_zero]
      have hwl := HL.out
      have hb := hwl.out (by simp; omega)
      have ho' := HOa.out.all hb
      have hr21 := Rd.of_row (hwl.row 0 rfl) (Nat.le_refl _) (hwl.lt 0 rfl)
      have hbw' : base ≤ wl.heap.size := Nat.le_trans hbw (Nat.le_trans hsz hb.size)
      have hwb := HWa.out.trans (hb.mono (Nat.le_trans hBw hsz))
      have hrg : wl.rowIs g 79 2 (hashF A n c) := row_below (HA.out.row 1 rfl) hb (HA.out.row 1 rfl).lt
      refine ord_step (i := 7) rfl (by kernel_rfl) rfl (fun K hK => ?_)
      refine wp_appZ wl (.tmp 18) (.tmp 20) 32 base (z := .agg (Array.replicate 32 (.int .u8 0))) (k := 32) (bytes := 32) (by kernel_rfl) Tryd.underlying32 (by rfl) (by omega) rfl (n + 1) (u8v (catN (n * 32) x R)) rfl rfl ho' hr21 (fun _ _ => rfl) rfl cat_h ⟨by omega, by omega⟩ hbw' ?_
      intro A22 c22 w22 ho22 hg22 ha22
      have hrg2 := hrg.of_block (hg22.block g hrg.lt (fun e => by
        cases A with
        | none => cases e
        | some ad => injection e with e; exact HNe.out ad rfl e.symm))
      have hw22 := below_app hwb hg22 (Nat.le_trans hBb hbw') (fun ad e => Nat.le_trans hBb (HO.out.base_le ad e).1)
      have hne22 : ∀ ad, A22 = some ad → ad.block ≠ g := fun ad e => by
        rcases ha22 ad e with h | h
        · cases A with
          | none => cases h
          | some ad' => injection h with h; rw [h]; exact HNe.out ad' rfl
        · have := hrg.lt; omega
      have HO22 := Lib.hid ho22
      clear ho' hbw' hwb hrg hg22 ha22 ho22 hb hr21 hwl
      refine hK _ _ ?_
      clear hK
      simp only [Act.put, List.setIfInBounds_toArray, List.set_cons_succ, List.set_cons_zero]
      refine ord_step (i := 8) rfl (by kernel_rfl) rfl (fun K hK => ?_)
      refine wp_ex (.pointer (some ⟨g, 0, none⟩)) (ex_nil rfl rfl _) ?_
      refine hK _ _ ?_
      clear hK
      simp only [Act.put, List.setIfInBounds_toArray, List.set_cons_succ, List.set_cons_zero]
      refine ord_step (i := 9) rfl (by kernel_rfl) rfl (fun K hK => ?_)
      refine wp_ex (.pointer (some ⟨g, 0, none⟩)) (ex_fld rfl rfl (fun w => by simp [go_sem]) _) ?_
      refine hK _ _ ?_
      clear hK
      simp only [Act.put, List.setIfInBounds_toArray, List.set_cons_succ, List.set_cons_zero]
      refine ord_step (i := 10) rfl (by kernel_rfl) rfl (fun K hK => ?_)
      refine wp_store rfl rfl (v := .slice A22 (n + 1) c22) rfl rfl (st_sl ⟨g, 0, none⟩ A22 (n + 1) c22 _ w22 (hrg2.cell (i := 0) (by show 0 < 2; omega)) (hrg2.frozen 0)) ?_
      refine hK _ _ (wpAny_done (by kernel_rfl) ?_ _)
      clear hK
      have hg := grown_setCell (World.grownBy.refl w22 (some g)) (.inl rfl) (.slice A22 (n + 1) c22) (p := ⟨g, 0, none⟩)
      have hr3 := (hrg2.set 0 (.slice A22 (n + 1) c22)).congr (g := hashF A22 (n + 1) c22) (fun i hi => by
        by_cases e : i = 0
        · subst e; rfl
        · show (if i = 0 then _ else hashF A n c i) = hashF A22 (n + 1) c22 i
          rw [if_neg e]; unfold hashF; rw [if_neg e, if_neg e])
      have ho3 := HO22.out.kept hg (fun ad e h => by injection h with h; exact hne22 ad e h)
      have hw3 := hw22.grown hg (Nat.le_trans hBw hw22.size) (fun k hk => by injection hk with hk; omega)
      go_wp2_with fail
      go_end0
      exact ⟨rfl, ⟨A22, c22, hr3, ho3, hne22⟩, hw3⟩
    · refine wp_bs1L Tryd.underlying32 (z := 32) (by kernel_rfl) (by omega) (by omega) (v0 := .agg (Array.replicate 32 (.int .u8 0))) (by kernel_rfl) _ rfl (u8v R) rfl (HS.nil wv) ?_
      intro b21 wl hb21 _ hl
      have HL := Lib.hid hl
      clear hl
      refine hK _ _ ?_
      clear hK
      simp only [Act.put, List.setIfInBounds_toArray, List.set_cons_succ, List.set_cons_zero]
      refine ord_step (i := 4) rfl (by kernel_rfl) rfl (fun K hK => ?_)
      refine wp_ex (.slice A n c) (ex_ldsl rfl rfl (ld_sl _ _ wl ((row_below (HA.out.row 1 rfl) (HL.out.out (by simp; omega)) (HA.out.row 1 rfl).lt).cell (i := 0) (by show 0 < 2; omega)))) ?_
      refine hK _ _ ?_
      clear hK
      simp only [Act.put, List.setIfInBounds_toArray, List.set_cons_succ, List.set_cons_zero]
      have hwl := HL.out
      have hb := hwl.out (by simp; omega)
      have ho' := HOa.out.all hb
      have hr21 := Rd.of_row (hwl.row 0 rfl) (Nat.le_refl _) (hwl.lt 0 rfl)
      have hbw' : base ≤ wl.heap.size := Nat.le_trans hbw (Nat.le_trans hsz hb.size)
      have hwb := HWa.out.trans (hb.mono (Nat.le_trans hBw hsz))
      have hrg : wl.rowIs g 79 2 (hashF A n c) := row_below (HA.out.row 1 rfl) hb (HA.out.row 1 rfl).lt
      refine ord_step (i := 7) rfl (by kernel_rfl) rfl (fun K hK => ?_)
      refine wp_appZ wl (.tmp 18) (.tmp 20) 32 base (z := .agg (Array.replicate 32 (.int .u8 0))) (k := 32) (bytes := 32) (by kernel_rfl) Tryd.underlying32 (by rfl) (by omega) rfl (n + 1) (u8v (catN (n * 32) x R)) rfl rfl ho' hr21 (fun _ _ => rfl) rfl cat_h ⟨by omega, by omega⟩ hbw' ?_
      intro A22 c22 w22 ho22 hg22 ha22
      have hrg2 := hrg.of_block (hg22.block g hrg.lt (fun e => by
        cases A with
        | none => cases e
        | some ad => injection e with e; exact HNe.out ad rfl e.symm))
      have hw22 := below_app hwb hg22 (Nat.le_trans hBb hbw') (fun ad e => Nat.le_trans hBb (HO.out.base_le ad e).1)
      have hne22 : ∀ ad, A22 = some ad → ad.block ≠ g := fun ad e => by
        rcases ha22 ad e with h | h
        · cases A with
          | none => cases h
          | some ad' => injection h with h; rw [h]; exact HNe.out ad' rfl
        · have := hrg.lt; omega
      have HO22 := Lib.hid ho22
      clear ho' hbw' hwb hrg hg22 ha22 ho22 hb hr21 hwl
      refine hK _ _ ?_
      clear hK
      simp only [Act.put, List.setIfInBounds_toArray, List.set_cons_succ, List.set_cons_zero]
      refine ord_step (i := 8) rfl (by kernel_rfl) rfl (fun K hK => ?_)
      refine wp_ex (.pointer (some ⟨g, 0, none⟩)) (ex_nil rfl rfl _) ?_
      refine hK _ _ ?_
      clear hK
      simp only [Act.put, List.setIfInBounds_toArray, List.set_cons_succ, List.set_cons_zero]
      refine ord_step (i := 9) rfl (by kernel_rfl) rfl (fun K hK => ?_)
      refine wp_ex (.pointer (some ⟨g, 0, none⟩)) (ex_fld rfl rfl (fun w => by simp [go_sem]) _) ?_
      refine hK _ _ ?_
      clear hK
      simp only [Act.put, List.setIfInBounds_toArray, List.set_cons_succ, List.set_cons_zero]
      refine ord_step (i := 10) rfl (by kernel_rfl) rfl (fun K hK => ?_)
      refine wp_store rfl rfl (v := .slice A22 (n + 1) c22) rfl rfl (st_sl ⟨g, 0, none⟩ A22 (n + 1) c22 _ w22 (hrg2.cell (i := 0) (by show 0 < 2; omega)) (hrg2.frozen 0)) ?_
      refine hK _ _ (wpAny_done (by kernel_rfl) ?_ _)
      clear hK
      have hg := grown_setCell (World.grownBy.refl w22 (some g)) (.inl rfl) (.slice A22 (n + 1) c22) (p := ⟨g, 0, none⟩)
      have hr3 := (hrg2.set 0 (.slice A22 (n + 1) c22)).congr (g := hashF A22 (n + 1) c22) (fun i hi => by
        by_cases e : i = 0
        · subst e; rfl
        · show (if i = 0 then _ else hashF A n c i) = hashF A22 (n + 1) c22 i
          rw [if_neg e]; unfold hashF; rw [if_neg e, if_neg e])
      have ho3 := HO22.out.kept hg (fun ad e h => by injection h with h; exact hne22 ad e h)
      have hw3 := hw22.grown hg (Nat.le_trans hBw hw22.size) (fun k hk => by injection hk with hk; omega)
      go_wp2_with fail
      go_end0
      exact ⟨rfl, ⟨A22, c22, hr3, ho3, hne22⟩, hw3⟩
end Go.Proofs.YtecgogeebponlaaDoor
/- Tree and Must of the reference, where the chunks aren't too many. -/
namespace Go.Proofs.YtecgogeebponlaaDoor
set_option maxRecDepth 40000
open Go.RowKit
set_option maxHeartbeats 2000000 in
theorem treeTop_ok (n c l : Nat) (A : Option Addr) (x : Nat → Nat) (w : World) (hb : Rd w w.heap.size A (n * 32) (u8v x)) (hx : ∀ i, x i < 256) (hnc : n ≤ c) (hl : l ≤ 1099511627776) (hnl : n ≤ l) (hp : RefPkg w) :
    Calls Tryd.prog 44 #[.slice A n c, .int .i64 (l : Int)] w fun e w' => e = .returned (.tuple #[rootV (treeN (dep l) n x), .int .i64 0]) ∧ Below w.heap.size w w' := by
  have HP := Lib.hid hp
  have HX := Lib.hid hb
  have HXl := Lib.hid hx
  have HS0 := Lib.hid (HS.nil w)
  have hd40 : dep l ≤ 40 := dep_le (k := 40) (by omega)
  clear hb hx hp
  have tok1 := Tok.mk 1
  go_enter Tryd.func44, Tryd.ntmps44
  go_wp2_with (first
    | (refine wpList_allocL rfl 24 4 rfl rfl HS0.out (Array.replicate 32 (.int .u8 0)) (by kernel_rfl) 32 (u8v fun _ => 0) (by rfl) (zero_at 32 (.int .u8 0)) ?_; intro b6 w6 hb6 hc6 hs6; have HS6 := Lib.hid hs6; clear hs6)
    | (go_at_call 50; refine (depth_ref l hl _).mono ?_; rintro e w7 ⟨rfl, hw7⟩; subst hw7)
    | (go_at_call 51; refine (zeros_ref (dep l) hd40 _ (HP.out.below (HS6.out.out (by simp; omega)))).mono ?_; rintro e w8 ⟨Z, cz, rfl, hz, hb8⟩; have HZ := Lib.hid hz; have HS8 := Lib.hid (HS6.out.below hb8); clear hz hb8)
    | (go_at_call 49; refine (tree_ref (dep l) n c A x (dep l + 1) cz Z _ (by omega) hd40 hnc ((HX.out.below (HS8.out.out (by simp; omega))).more HS8.out.size) HXl.out HZ.out.rd (by omega) (HP.out.below (HS8.out.out (by simp; omega)))).mono ?_; rintro e w9 ⟨rfl, hb9⟩; have HS9 := Lib.hid (HS8.out.below hb9); clear hb9)
    | (refine wpList_storeH rfl 24 (.tmp 4) (.tmp 24) rfl HS9.out 0 rfl (u8v (treeN (dep l) n x)) rfl rfl (by kernel_rfl) (fun _ _ => rfl) ?_; intro wy hs; have HY := Lib.hid hs; clear hs))
  exact ret_rowTmp rfl (HY.out.row 0 rfl) _ _ rfl rfl Tryd.underlying24 rfl (by kernel_rfl) rfl ⟨rfl, HY.out.out (by simp; omega)⟩
set_option maxHeartbeats 2000000 in
theorem must_ok (n c l : Nat) (A : Option Addr) (x : Nat → Nat) (w : World) (hb : Rd w w.heap.size A (n * 32) (u8v x)) (hx : ∀ i, x i < 256) (hnc : n ≤ c) (hl : l ≤ 1099511627776) (hnl : n ≤ l) (hp : RefPkg w) :
    Calls Tryd.prog 36 #[.slice A n c, .int .i64 (l : Int)] w fun e w' => e = .returned (rootV (treeN (dep l) n x)) ∧ Below w.heap.size w w' := by
  have HP := Lib.hid hp
  have HX := Lib.hid hb
  have HXl := Lib.hid hx
  have HS0 := Lib.hid (HS.nil w)
  clear hb hx hp
  go_enter Tryd.func36, Tryd.ntmps36
  go_wp2_with (first
    | (refine wpList_allocL rfl 24 4 rfl rfl HS0.out (Array.replicate 32 (.int .u8 0)) (by kernel_rfl) 32 (u8v fun _ => 0) (by rfl) (zero_at 32 (.int .u8 0)) ?_; intro b4 w4 hb4 hc4 hs4; have HS4 := Lib.hid hs4; clear hs4)
    | (go_at_call 44; refine (treeTop_ok n c l A x _ ((HX.out.below (HS4.out.out (by simp; omega))).more HS4.out.size) HXl.out hnc hl hnl (HP.out.below (HS4.out.out (by simp; omega)))).mono ?_; rintro e w5 ⟨rfl, hb5⟩; have HS5 := Lib.hid (HS4.out.below hb5); clear hb5)
    | (refine wpList_allocL rfl 24 5 rfl rfl HS5.out (Array.replicate 32 (.int .u8 0)) (by kernel_rfl) 32 (u8v fun _ => 0) (by rfl) (zero_at 32 (.int .u8 0)) ?_; intro b6 w6 hb6 hc6 hs6; have HS6 := Lib.hid hs6; clear hs6)
    | (refine wpList_storeH rfl 24 (.tmp 5) (.tmp 11) rfl HS6.out 0 rfl (u8v (treeN (dep l) n x)) rfl rfl (by kernel_rfl) (fun _ _ => rfl) ?_; intro w7 hs; have HS7 := Lib.hid hs; clear hs)
    | (refine wpList_load_rd rfl 24 _ rfl 32 _ Tryd.underlying24 rfl (by kernel_rfl) ⟨b6, 0, none⟩ rfl (u8v (treeN (dep l) n x)) (fun i hi => by rw [add_lit0]; exact HS7.out.cell 0 i rfl hi) ?_)
    | (refine wpList_storeH rfl 24 (.tmp 4) (.tmp 13) rfl HS7.out 1 rfl (u8v (treeN (dep l) n x)) rfl rfl (by kernel_rfl) (fun _ _ => rfl) ?_; intro wy hs; have HY := Lib.hid hs; clear hs))
  exact ret_rowIs rfl (HY.out.row 1 rfl) _ rfl Tryd.underlying24 rfl (by kernel_rfl) rfl ⟨rfl, HY.out.out (by simp; omega)⟩
end Go.Proofs.YtecgogeebponlaaDoor
/- A list of three, and calls on lists, in drawn regions. -/
namespace Go.Proofs.YtecgogeebponlaaDoor
set_option maxRecDepth 40000
open Go.RowKit
/-- A slice of n elements of z cells that reads as f, with room for as many. -/
def SF.rdC (n z : Nat) (f : Nat → Value) : SF := ⟨fun v w => ∃ A c, v = .slice A n c ∧ n ≤ c ∧ Rd w w.heap.size A (n * z) f, fun _ _ _ ⟨A, c, e, h0, h⟩ hb => ⟨A, c, e, h0, (h.below hb).more hb.size⟩⟩
/-- Three, one behind the other. -/
def cat3 (z : Nat) (f g h : Nat → Value) : Nat → Value := fun i => if i < z then f i else if i < 2 * z then g (i - z) else h (i - 2 * z)
section
variable {P : Program} {ops : Array Oper} {B : Nat} {w0 : World} {o : Oper} {lk : Tmp → SF} {ty rt : TypeId}
theorem opOb_bs3Z {t e : TypeId} {z : Nat} (ht : P.underlying t = some (.slice e)) (hz : (P.info? e).map (·.size) = some z) (hlen : 3 * z ≤ 16777216) (h0 : 0 < z) {v0 : Value} (hzero : (P.info? e).bind (·.zero) = some v0)
    {x y u : Operand} (hg : o.guard = none) (hop : o.op = .buildSlice t 3 #[(0, x), (1, y), (2, u)]) (f g h : Nat → Value) (hx : OpK lk x (.agg (arr z f))) (hy : OpK lk y (.agg (arr z g))) (hu : OpK lk u (.agg (arr z h))) : opOb P ops B w0 o (SF.rdC 3 z (cat3 z f g h)) lk :=
  opOb_of hg fun a w hbel hf => by
    have h1 := hx.eval hf (by rw [hop]; simp [Op.operands])
    have h2 := hy.eval hf (by rw [hop]; simp [Op.operands])
    have h3 := hu.eval hf (by rw [hop]; simp [Op.operands])
    have hr := run_bsN (P := P) w (t := t) (len := 3) ht hz hlen (by omega) hzero #[(0, .agg (arr z f)), (1, .agg (arr z g)), (2, .agg (arr z h))] (cat3 z f g h) (fun g0 => by
      rw [show (#[((0 : Nat), Value.agg (arr z f)), (1, .agg (arr z g)), (2, .agg (arr z h))] : Array (Nat × Value)).toList = [(0, .agg (arr z f)), (1, .agg (arr z g)), (2, .agg (arr z h))] from rfl, fill_step z (3 * z) 0 f g0 _ (by omega), fill_step z (3 * z) 1 g _ _ (by omega), fill_step z (3 * z) 2 h _ _ (by omega)]
      show some _ = some _
      refine congrArg some (arr_congr fun i hi => ?_)
      unfold cat3
      by_cases a1 : i < z
      · rw [if_neg (by omega), if_neg (by omega), if_pos (by omega), if_pos a1]; simp
      · by_cases a2 : i < 2 * z
        · rw [if_neg (by omega), if_pos (by omega), if_neg a1, if_pos a2]; simp
        · rw [if_pos (by omega), if_neg a1, if_neg a2])
    have hrun : (execOp a.eval o).run P w = .ok (.value (.slice (some ⟨w.heap.size, 0, none⟩) 3 3)) (w.alloc (.cells (arr (3 * z) (cat3 z f g h)) e)) := by
      unfold execOp
      rw [hop]
      simp only [List.map_toArray, List.map_cons, List.map_nil, h1, h2, h3]
      simp [hr]
    have h4 := (HS.nil w).alloc (arr (3 * z) (cat3 z f g h)) e (3 * z) (cat3 z f g h) (size_arr _ _) (fun i hi => arr_at _ _ i hi)
    unfold Oper.wp
    rw [hrun]
    exact ⟨_, rfl, ⟨_, _, rfl, Nat.le_refl _, Rd.of_row (h4.row 0 rfl) (Nat.le_refl _) (h4.lt 0 rfl)⟩, h4.out (by simp)⟩
/-- A call of such a slice and a known value. -/
theorem opOb_fnC {f : FuncId} (hent : ∀ vs w, (callFunc f vs).run P w = .ok (.enter f vs) w) {x : Tmp} {y : Operand} {u : Value} {n z : Nat} {g : Nat → Value} {ts : Array TypeId} {F : SF} (hg : o.guard = none) (hop : o.op = .call { callee := .value (.func f), args := #[.tmp x, y], argTypes := ts })
    (hx : lk x = SF.rdC n z g) (hy : OpK lk y u) (hr : ∀ w A c, Below B w0 w → n ≤ c → Rd w w.heap.size A (n * z) g → Calls P f #[.slice A n c, u] w fun e w' => ∃ v, e = .returned v ∧ F.F v w' ∧ Below w.heap.size w w') : opOb P ops B w0 o F lk :=
  opOb_call hg fun a w hb hf => by
    have h1 := hf x (by rw [hop]; simp [Op.operands, Call.operands])
    have h2 := hy.eval hf (by rw [hop]; simp [Op.operands, Call.operands])
    rw [hx] at h1
    obtain ⟨A, c, e1, h0, h1⟩ := h1
    have h1' : a.eval (.tmp x) = .slice A n c := (getD_eq _ _).trans e1
    refine ⟨f, #[.slice A n c, u], ?_, hr w A c hb h0 h1⟩
    unfold execOp
    rw [hop]
    simp only [resolve, List.map_toArray, List.map_cons, List.map_nil, h1', h2]
    simp [invoke, Deferred.ofValue, Act.eval, hent]
end
end Go.Proofs.YtecgogeebponlaaDoor
/- Domains, by the program. (Printed by a program of mine.) -/
namespace Go.Proofs.YtecgogeebponlaaDoor
set_option maxRecDepth 40000
open Go.RowKit
/-- The bytes of a domain of kind K, version v and root r. -/
def domN (K : Nat) (v r : Nat → Nat) : Nat → Nat := catN 4 (leB K) (shaB (catN 32 (padN 4 v) r) 64)
theorem domN_lt {K : Nat} {v r : Nat → Nat} : ∀ i, domN K v r i < 256 := catN_lt (leB_lt K) (fun i => shaB_lt _ _ i)
namespace SignOf
theorem ent_bytes (vs : Array Value) (w : World) : (callFunc 42 vs).run Tryd.prog w = .ok (.enter 42 vs) w := by kernel_rfl
theorem ent_two (vs : Array Value) (w : World) : (callFunc 29 vs).run Tryd.prog w = .ok (.enter 29 vs) w := by kernel_rfl
theorem c1 (v : Nat → Nat) : ∀ j, j < 32 → (if 0 ≤ j ∧ j < 0 + 4 then u8v v (j - 0) else u8v (fun _ => 0) j) = u8v (padN 4 v) j := fun j _ => by
  unfold padN
  by_cases h : j < 4
  · rw [if_pos (by omega)]; simp only [u8v]; rw [if_pos h]; rfl
  · rw [if_neg (by omega)]; simp only [u8v]; rw [if_neg h]
theorem c2 (v : Nat → Nat) : ∀ j, j < 32 → (if 0 ≤ j ∧ j < 0 + 4 then u8v v (j - 0) else u8v (fun _ => 0) j) = u8v (padN 4 v) j := c1 v
theorem c3 (K : Nat) (h : Nat → Nat) : ∀ j, j < 32 → (if 4 ≤ j ∧ j < 4 + 28 then u8v h (j - 4) else u8v (padN 4 (leB K)) j) = u8v (catN 4 (leB K) h) j := fun j hj => by
  unfold padN catN
  by_cases h4 : j < 4
  · rw [if_neg (by omega)]; simp only [u8v]; rw [if_pos h4, if_pos h4]
  · rw [if_pos (by omega)]; simp only [u8v]; rw [if_neg h4]
end SignOf
open SignOf in
set_option maxHeartbeats 4000000 in
theorem of_look (k : Int) (K : Nat) (hk : IntKind.u64.wrap k = (K : Int)) (v r : Nat → Nat) (hv : ∀ i, v i < 256) (hr : ∀ i, r i < 256) (w : World) (hp : ShaPkg w) :
    Calls Tryd.prog 27 #[.int .i64 k, .agg (arr 4 (u8v v)), rootV r] w fun e w' => e = .returned (rootV (domN K v r)) ∧ Below w.heap.size w w' := by
  have HP := Lib.hid hp
  have HV := Lib.hid hv
  have HR := Lib.hid hr
  have HK := Lib.hid hk
  have HS0 := Lib.hid (HS.nil w)
  clear hp hv hr hk
  go_enter Tryd.func27, Tryd.ntmps27
  go_wp2_with (first
    | (refine wpList_boxL rfl 26 _ 4 rfl rfl HS0.out 4 (u8v v) rfl ?_; intro b4 w4 hb4 hc4 hs4; have HS4 := Lib.hid hs4; clear hs4)
    | (refine wpList_boxL rfl 24 _ 5 rfl rfl HS4.out 32 (u8v r) rfl ?_; intro b5 w5 hb5 hc5 hs5; have HS5 := Lib.hid hs5; clear hs5)
    | (refine wpList_allocL rfl 24 6 rfl rfl HS5.out (Array.replicate 32 (.int .u8 0)) (by kernel_rfl) 32 (u8v fun _ => 0) (by rfl) (zero_at 32 (.int .u8 0)) ?_; intro b6 w6 hb6 hc6 hs6; have HS6 := Lib.hid hs6; clear hs6)
    | (refine wpList_allocL rfl 24 7 rfl rfl HS6.out (Array.replicate 32 (.int .u8 0)) (by kernel_rfl) 32 (u8v fun _ => 0) (by rfl) (zero_at 32 (.int .u8 0)) ?_; intro b7 w7 hb7 hc7 hs7; have HS7 := Lib.hid hs7; clear hs7)
    | (refine wpList_allocL rfl 24 8 rfl rfl HS7.out (Array.replicate 32 (.int .u8 0)) (by kernel_rfl) 32 (u8v fun _ => 0) (by rfl) (zero_at 32 (.int .u8 0)) ?_; intro b8 w8 hb8 hc8 hs8; have HS8 := Lib.hid hs8; clear hs8))
  refine wp_region_factsS (l := [_, _]) (tl := []) (B := w8.heap.size) (w0 := w8) [SF.is (.slice (some ⟨b7, 0, none⟩) (32) (32)), SF.is (.slice (some ⟨b4, 0, none⟩) (4) (4))] (by kernel_rfl) (by kernel_rfl) rfl (Nat.le_refl _) (Below.refl _ _) ⟨?_, ?_, trivial⟩ ?_
  · exact opOb_slc rfl rfl (OpK.tmp rfl) (OpKo.no) (OpKo.no) (fun w => cut_arr Tryd.underlying24 1 (by kernel_rfl) none none (0) (32) (.inl ⟨rfl, rfl⟩) (.inl ⟨rfl, rfl⟩) (by omega) (by omega) (by omega) (by omega) (by omega) (by omega))
  · exact opOb_slc rfl rfl (OpK.tmp rfl) (OpKo.no) (OpKo.no) (fun w => cut_arr Tryd.underlying26 1 (by kernel_rfl) none none (0) (4) (.inl ⟨rfl, rfl⟩) (.inl ⟨rfl, rfl⟩) (by omega) (by omega) (by omega) (by omega) (by omega) (by omega))
  · intro w' hb
    simp only [fin, SF.is, forall_eq]
    simp only [Act.put, List.setIfInBounds_toArray, List.set_cons_succ, List.set_cons_zero]
    have hs := HS8.out.below hb
    refine wp_copyL rfl Tryd.underlying39 (by kernel_rfl) hs 1 rfl 0 32 32 (Rd.of_row (hs.row 4 rfl) (Nat.le_refl _) (hs.lt 4 rfl)) (fun _ _ => rfl) 4 rfl (by omega) rfl rfl _ (c1 v) ?_
    clear hs hb
    intro wa hs
    have HA := Lib.hid hs
    clear hs
    simp only [seqWp]
    go_wp2_with fail
    refine wp_region_factsS (l := [_, _, _, _, _, _, _, _]) (tl := [_]) (B := wa.heap.size) (w0 := wa) [SF.is (.int .i64 k), SF.is (.int .u64 ((K : Nat) : Int)), SF.is (.agg (arr 8 (u8v (leB K)))), SF.is (rootV (padN 4 v)), SF.is (rootV r), SF.is (rootV (shaB (catN 32 (padN 4 v) r) 64)), SF.new wa.heap.size 84 8 (u8v fun _ => 0), SF.new wa.heap.size 24 32 (u8v fun _ => 0)] (by kernel_rfl) (by kernel_rfl) rfl (Nat.le_refl _) (Below.refl _ _) ⟨?_, ?_, ?_, ?_, ?_, ?_, ?_, ?_, trivial⟩ ?_
    · exact (opOb_move _ rfl (.inl rfl) rfl)
    · exact opOb_cnv rfl rfl (OpK.tmp rfl) (fun w => by rw [← HK.out]; simp [go_sem])
    · exact opOb_fn1 ent_bytes rfl rfl (OpK.tmp rfl) (fun w' hb => (bytes_look K w').mono fun e w'' ⟨he, hb2⟩ => ⟨_, he, rfl, hb2⟩)
    · exact opOb_ld rfl rfl (OpK.tmp rfl) (fun w' hb => ld_all (HA.out.row 1 rfl) (HA.out.row 1 rfl).lt Tryd.underlying24 rfl (by kernel_rfl) w' hb)
    · exact opOb_ld rfl rfl (OpK.tmp rfl) (fun w' hb => ld_all (HA.out.row 3 rfl) (HA.out.row 3 rfl).lt Tryd.underlying24 rfl (by kernel_rfl) w' hb)
    · exact opOb_fn2 ent_two rfl rfl (OpK.tmp rfl) (OpK.tmp rfl) (fun w' hb => (two_any (padN 4 v) r (padN_lt HV.out) HR.out w' (HP.out.below ((HA.out.out (by simp; omega)).trans (hb.mono HA.out.size)))).mono fun e w'' ⟨he, hb2⟩ => ⟨_, he, rfl, hb2⟩)
    · exact opOb_new wa.heap.size rfl rfl (Array.replicate 8 (.int .u8 0)) (by kernel_rfl) 8 (u8v fun _ => 0) (by rfl) (zero_at 8 (.int .u8 0)) (Nat.le_refl _)
    · exact opOb_new wa.heap.size rfl rfl (Array.replicate 32 (.int .u8 0)) (by kernel_rfl) 32 (u8v fun _ => 0) (by rfl) (zero_at 32 (.int .u8 0)) (Nat.le_refl _)
    · intro w' hb
      simp only [fin, SF.is, SF.new, forall_eq]
      simp only [Act.put, List.setIfInBounds_toArray, List.set_cons_succ, List.set_cons_zero]
      rintro _ ⟨c9, rfl, hc9, hr9⟩ _ ⟨c10, rfl, hc10, hr10⟩
      have hs := HA.out.below hb
      have hsz := HA.out.size
      have hn9 := row_ne hr9 hr10 (by decide)
      have hs1 := hs.add hr9 (by omega) (fun r hr => by have := (HA.out.has r hr).lt; omega)
      have hs2 := hs1.add hr10 (by omega) (fun r hr => by
        rcases List.mem_cons.1 hr with rfl | hr
        · exact hn9
        · have := (HA.out.has r hr).lt; omega)
      clear hs hb hs1 hr9 hr10 hn9
      have hs := hs2
      clear hs2
      refine wp_storeL 84 (.tmp 9) (.tmp 16) rfl hs 1 rfl (u8v (leB K)) rfl rfl (by kernel_rfl) (fun _ _ => rfl) ?_
      clear hs
      intro wd hs
      refine wp_storeL 24 (.tmp 10) (.tmp 19) rfl hs 0 rfl (u8v (shaB (catN 32 (padN 4 v) r) 64)) rfl rfl (by kernel_rfl) (fun _ _ => rfl) ?_
      clear hs
      intro we hs
      have HE := Lib.hid hs
      clear hs
      simp only [seqWp, Act.put]
      go_wp2_with fail
      refine wp_region_factsS (l := [_, _]) (tl := []) (B := we.heap.size) (w0 := we) [SF.is (.slice (some ⟨b8, 0, none⟩) (4) (32)), SF.is (.slice (some ⟨c9, 0, none⟩) (8) (8))] (by kernel_rfl) (by kernel_rfl) rfl (Nat.le_refl _) (Below.refl _ _) ⟨?_, ?_, trivial⟩ ?_
      · exact opOb_slc rfl rfl (OpK.tmp rfl) (OpKo.no) (OpKo.const) (fun w => cut_arr Tryd.underlying24 1 (by kernel_rfl) none (some _) (0) (4) (.inl ⟨rfl, rfl⟩) (.inr rfl) (by omega) (by omega) (by omega) (by omega) (by omega) (by omega))
      · exact opOb_slc rfl rfl (OpK.tmp rfl) (OpKo.no) (OpKo.no) (fun w => cut_arr Tryd.underlying84 1 (by kernel_rfl) none none (0) (8) (.inl ⟨rfl, rfl⟩) (.inl ⟨rfl, rfl⟩) (by omega) (by omega) (by omega) (by omega) (by omega) (by omega))
      · intro w' hb
        simp only [fin, SF.is, forall_eq]
        simp only [Act.put, List.setIfInBounds_toArray, List.set_cons_succ, List.set_cons_zero]
        have hs := HE.out.below hb
        refine wp_copyL rfl Tryd.underlying39 (by kernel_rfl) hs 2 rfl 0 4 32 (Rd.of_row (hs.row 1 rfl) (Nat.le_refl _) (hs.lt 1 rfl)) (fun _ _ => rfl) 4 rfl (by omega) rfl rfl _ (c2 (leB K)) ?_
        clear hs hb
        intro wf hs
        have HF := Lib.hid hs
        clear hs
        simp only [seqWp]
        go_wp2_with fail
        refine wp_region_factsS (l := [_, _]) (tl := []) (B := wf.heap.size) (w0 := wf) [SF.is (.slice (some ⟨b8, 4, none⟩) (28) (28)), SF.is (.slice (some ⟨c10, 0, none⟩) (32) (32))] (by kernel_rfl) (by kernel_rfl) rfl (Nat.le_refl _) (Below.refl _ _) ⟨?_, ?_, trivial⟩ ?_
        · exact opOb_slc rfl rfl (OpK.tmp rfl) (OpKo.const) (OpKo.no) (fun w => cut_arr Tryd.underlying24 1 (by kernel_rfl) (some _) none (4) (32) (.inr rfl) (.inl ⟨rfl, rfl⟩) (by omega) (by omega) (by omega) (by omega) (by omega) (by omega))
        · exact opOb_slc rfl rfl (OpK.tmp rfl) (OpKo.no) (OpKo.no) (fun w => cut_arr Tryd.underlying24 1 (by kernel_rfl) none none (0) (32) (.inl ⟨rfl, rfl⟩) (.inl ⟨rfl, rfl⟩) (by omega) (by omega) (by omega) (by omega) (by omega) (by omega))
        · intro w' hb
          simp only [fin, SF.is, forall_eq]
          simp only [Act.put, List.setIfInBounds_toArray, List.set_cons_succ, List.set_cons_zero]
          have hs := HF.out.below hb
          refine wp_copyL rfl Tryd.underlying39 (by kernel_rfl) hs 2 rfl 4 28 28 (Rd.of_row (hs.row 0 rfl) (Nat.le_refl _) (hs.lt 0 rfl)) (fun _ _ => rfl) 28 rfl (by omega) rfl rfl _ (c3 K (shaB (catN 32 (padN 4 v) r) 64)) ?_
          clear hs hb
          intro wg hs
          have HG := Lib.hid hs
          clear hs
          simp only [seqWp]
          go_wp2_with (first
            | (refine wpList_load_rd rfl 24 _ rfl 32 _ Tryd.underlying24 rfl (by kernel_rfl) ⟨b8, 0, none⟩ rfl (u8v (catN 4 (leB K) (shaB (catN 32 (padN 4 v) r) 64))) (fun i hi => by rw [add_lit0]; exact HG.out.cell 2 i rfl hi) ?_)
            | (refine wpList_storeH rfl 24 (.tmp 6) (.tmp 26) rfl HG.out 4 rfl (u8v (catN 4 (leB K) (shaB (catN 32 (padN 4 v) r) 64))) rfl rfl (by kernel_rfl) (fun _ _ => rfl) ?_; intro wh hs; have HH := Lib.hid hs; clear hs))
          exact ret_rowIs rfl (HH.out.row 4 rfl) _ rfl Tryd.underlying24 rfl (by kernel_rfl) rfl ⟨rfl, HH.out.out (by simp; omega)⟩
end Go.Proofs.YtecgogeebponlaaDoor
