/- A part of what the proofs stand on: ShufRounds, ShufWalk, ShufRev, ShufPlace, ShufSwap. -/
import Derived.Test.YtjmbgdldnnmipaaDoorGShu15
import Derived.Test.YtjmbgdldnnmipaaDoorGShu7
import Derived.Test.YtjmbgdldnnmipaaDoorGShu14
import Derived.Test.YtjmbgdldnnmipaaDoorGShu13
import Derived.Test.YtjmbgdldnnmipaaDoorGShu12
/- The rounds of a shuffle: their pivots and their digests. -/
namespace Go.Proofs.YtjmbgdldnnmipaaDoor
set_option maxRecDepth 40000
open Go.RowKit
theorem one_at (v : Value) (i : Nat) (hi : i < 1) : (#[v] : Array Value)[i]? = some v := by
  obtain rfl : i = 0 := by omega
  rfl
section
variable {P : Program}
/-- A new slice of one number. -/
theorem wpList_bs1s {ops : Array Oper} {rest : List Oper} {o : Oper} {a : Act} {w w0 : World} {Q : Exit → Act → World → Prop} {rows : List RowSpec} (hgd : o.guard = none) {t e : TypeId} (x : Operand) (v : Value) (ho : o.op = .buildSlice t 1 #[(0, x)]) (hx : a.eval x = v) (hr : ∀ w : World, (Instr.buildSlice t 1 #[(0, v)]).run P w = .ok (.slice (some ⟨w.heap.size, 0, none⟩) 1 1) (w.alloc (.cells #[v] e))) (h : HS w0 w rows)
    (hK : ∀ b w', w0.heap.size ≤ b → w.heap.size ≤ b → Below w.heap.size w w' → HS w0 w' (⟨b, e, 1, fun _ => v⟩ :: rows) → wpList P ops Q rest (a.put o.dst (.slice (some ⟨b, 0, none⟩) 1 1)) w') : wpList P ops Q (o :: rest) a w :=
  wpList_plain hgd fun _ hK' => by
    have hrun : (execOp a.eval o).run P w = .ok (.value (.slice (some ⟨w.heap.size, 0, none⟩) 1 1)) (w.alloc (.cells #[v] e)) := by
      unfold execOp
      rw [ho]
      simp only [List.map_toArray, List.map_cons, List.map_nil, hx]
      simp [hr]
    unfold Oper.wp
    rw [hrun]
    exact hK' _ _ (hK _ _ h.size (Nat.le_refl _) ((Below.refl _ _).alloc (Nat.le_refl _) _) (h.alloc #[v] e 1 (fun _ => v) rfl (fun i hi => one_at v i hi)))
end
/-- A row of the call's own that grows in memory that is followed. -/
theorem HS.appO {w0 w w' : World} {rows : List RowSpec} {A : Option Addr} (h : HS w0 w rows) (hg : w.grownBy w' (A.map (·.block))) {B : Nat} (hA : ∀ ad, A = some ad → B ≤ ad.block) (hr : w0.heap.size ≤ B ∧ ∀ r ∈ rows, r.b < B) : HS w0 w' rows :=
  ⟨hg.os.trans h.os, hg.tape.trans h.tape, hg.output.trans h.output, Nat.le_trans h.size hg.size, fun k hk hr' => (hg.block k (Nat.lt_of_lt_of_le hk h.size) (fun e => by
    cases A with
    | none => cases e
    | some ad => injection e with e; have e' : k = ad.block := e; have := hA ad rfl; have := hr.1; omega)).trans (h.block k hk hr'), fun r hr' => (h.has r hr').of_block (hg.block r.b (h.has r hr').lt (fun e => by
    cases A with
    | none => cases e
    | some ad => injection e with e; have e' : r.b = ad.block := e; have := hA ad rfl; have := hr.2 r hr'; omega)), h.apart⟩
namespace ShufRounds
/-- The cells of a list of rounds. -/
def lstF (s : Nat → Nat) (n : Nat) (ρ D : Nat → Nat) : Nat → Value := fun i => rndF (pivN s n (ρ (i / 2))) (D (ρ (i / 2))) (i % 2)
/-- A list of rounds and their digests. -/
structure Rnds (base : Nat) (w : World) (s : Nat → Nat) (n k : Nat) (ρ : Nat → Nat) (A : Option Addr) (c : Nat) (D : Nat → Nat) : Prop where
  own : OwnZ w base 76 2 A k c (lstF s n ρ D)
  dig : ∀ r, r < k → Dig w (D (ρ r)) (preN s (ρ r)) 33 ∧ base ≤ D (ρ r)
theorem dig_ne {w : World} {base : Nat} {A : Option Addr} {k c : Nat} {F : Nat → Value} (h : OwnZ w base 76 2 A k c F) {g : Nat} {m : Nat → Nat} {len : Nat} (hd : Dig w g m len) : ∀ ad, A = some ad → g ≠ ad.block := by
  rintro ad rfl
  obtain ⟨_, _, _, _, _, _, _, c', hc', _⟩ := hd
  rcases h.2 with ⟨hv, _⟩ | ⟨q, cap, cur, hv, _, hh, _⟩
  · injection hv with h1; cases h1
  · injection hv with h1
    injection h1 with h1
    rintro rfl
    rw [h1] at hc'
    rw [hh] at hc'
    injection hc' with hc'
    injection hc' with _ h2
    exact absurd h2 (by decide)
theorem dig_grown {w w' : World} {base : Nat} {A : Option Addr} {k c : Nat} {F : Nat → Value} (h : OwnZ w base 76 2 A k c F) (hg : w.grownBy w' (A.map (·.block))) {g : Nat} {m : Nat → Nat} {len : Nat} (hd : Dig w g m len) : Dig w' g m len :=
  hd.of_block (hg.block g hd.lt (fun e => by
    cases A with
    | none => cases e
    | some ad => injection e with e; exact dig_ne h hd ad rfl e))
theorem Rnds.below {base : Nat} {w w' : World} {s : Nat → Nat} {n k : Nat} {ρ : Nat → Nat} {A : Option Addr} {c : Nat} {D : Nat → Nat} (h : Rnds base w s n k ρ A c D) (hb : Below w.heap.size w w') : Rnds base w' s n k ρ A c D :=
  ⟨h.own.all hb, fun r hr => ⟨(h.dig r hr).1.below hb (h.dig r hr).1.lt, (h.dig r hr).2⟩⟩
theorem Rnds.mono {base base' : Nat} {w : World} {s : Nat → Nat} {n k : Nat} {ρ : Nat → Nat} {A : Option Addr} {c : Nat} {D : Nat → Nat} (h : Rnds base w s n k ρ A c D) (hb : base' ≤ base) : Rnds base' w s n k ρ A c D :=
  ⟨h.own.mono hb, fun r hr => ⟨(h.dig r hr).1, Nat.le_trans hb (h.dig r hr).2⟩⟩
def zeroOf1 : Value := .agg #[.int .u64 0, .pointer none]
theorem rnd_one (p g i : Nat) : (rndF p g i).oneCell' = true := by unfold rndF; split <;> rfl
def updD (D : Nat → Nat) (k g : Nat) : Nat → Nat := fun r => if r = k then g else D r
theorem lst_cat {s : Nat → Nat} {n k g : Nat} {D : Nat → Nat} : ∀ i, i < (k + 1) * 2 → catF (k * 2) (lstF s n fwd D) (rndF (pivN s n k) g) i = lstF s n fwd (updD D k g) i := fun i hi => by
  unfold catF lstF fwd updD
  by_cases h : i < k * 2
  · rw [if_pos h, if_neg (by omega)]
  · rw [if_neg h, if_pos (by omega), show i / 2 = k by omega, show i - k * 2 = i % 2 by omega]
theorem built_rnd (p g : Nat) : Tryd.prog.built 76 [(0, .int .u64 (p : Int)), (1, .pointer (some ⟨g, 0, none⟩))] = some (arr 2 (rndF p g)) := by kernel_rfl
theorem run_bs1_B (v : Int) (w : World) : (Instr.buildSlice 35 1 #[(0, .int .u8 v)]).run Tryd.prog w = .ok (.slice (some ⟨w.heap.size, 0, none⟩) 1 1) (w.alloc (.cells #[.int .u8 v] 5)) := by simp [go_sem]
theorem cvIB (k : Nat) (hk : k < 256) (w : World) : (convert 3 5 (.int .i64 (k : Int))).run Tryd.prog w = .ok (.int .u8 (k : Int)) w := by
  simp [go_sem, IntKind.wrap, IntKind.bits, IntKind.signed]; omega
theorem remU (a n : Nat) (hn : 0 < n) (ha : a < 18446744073709551616) (w : World) : (binOp .rem 25 (.int .u64 (a : Int)) (.int .u64 (n : Int))).run Tryd.prog w = .ok (.int .u64 ((a % n : Nat) : Int)) w := by
  have _h0 : (n : Int) ≠ 0 := by omega
  have e : (a : Int).tmod (n : Int) = ((a % n : Nat) : Int) := by
    rw [Int.tmod_eq_emod_of_nonneg (by omega)]; rfl
  have hl : a % n < 18446744073709551616 := Nat.lt_of_le_of_lt (Nat.mod_le _ _) ha
  simp [go_sem, e]
  try omega
end ShufRounds
open ShufRounds in
set_option maxHeartbeats 8000000 in
theorem rounds_look (s : Nat → Nat) (hs : ∀ i, s i < 256) (n : Nat) (hn : 0 < n) (w : World) (hp : ShaPkg w) :
    Calls Tryd.prog 50 #[.int .u64 (n : Int), rootV s] w fun e w' => ∃ A c D, e = .returned (.slice A 6 c) ∧ Rnds w.heap.size w' s n 6 fwd A c D ∧ Below w.heap.size w w' := by
  have hlt := hp.lt
  have HP := Lib.hid hp
  have HSl := Lib.hid hs
  have HS0 := Lib.hid (HS.nil w)
  clear hp hs
  go_enter Tryd.func50, Tryd.ntmps50
  go_wp2_with (refine wpList_boxL rfl 23 _ 3 rfl rfl HS0.out 32 (u8v s) rfl ?_; intro b3 w3 hb3 hc3 hs; have HS3 := Lib.hid hs; clear hs)
  have hb3w : b3 < w3.heap.size := HS3.out.lt 0 rfl
  have hw3 := HS3.out.size
  go_loopw [5, 11] (fun o5 o11 wr => ∃ (k : Nat) (A : Option Addr) (c : Nat) (D : Nat → Nat), o5 = .slice A k c ∧ o11 = .int .i64 (k : Int) ∧ k ≤ 6 ∧ Rnds w3.heap.size wr s n k fwd A c D ∧ HS w wr [⟨b3, 23, 32, u8v s⟩] ∧ w3.heap.size ≤ wr.heap.size) (fun _ ix _ => 6 - (intOf ix).toNat)
  case atStart => exact ⟨0, none, 0, fun _ => 0, rfl, rfl, by omega, ⟨OwnZ.nil _ _ _ _ _, fun r h => absurd h (by omega)⟩, HS3.out, Nat.le_refl _⟩
  case round =>
    clear HS3 HS0
    obtain ⟨k, A, c, D, rfl, rfl, hk, hrn, hs, hsz⟩ := hrel
    have HRn := Lib.hid hrn
    have HSr := Lib.hid hs
    have HPr := Lib.hid (HP.out.below (hs.out (by simp; omega)))
    have HBr := Lib.hid (Rd.of_row (n := 32) (hs.row 0 rfl) (Nat.le_refl _) (hs.lt 0 rfl))
    clear hrn hs
    by_cases hk6 : k < 6
    · have hpl := preN_lt (r := k) HSl.out (by omega)
      have HPl := Lib.hid hpl
      obtain ⟨H, hH⟩ : ∃ H, H = shaB (preN s k) 33 := ⟨_, rfl⟩
      have HHl := Lib.hid (show ∀ i, H i < 256 by rw [hH]; exact fun i => shaB_lt _ _ i)
      have HHe := Lib.hid hH.symm
      have HPv := Lib.hid (show rdN H 8 % n = pivN s n k by rw [hH]; rfl)
      have HR := Lib.hid (show rdN H 8 < 18446744073709551616 from rdN_lt HHl.out 8)
      clear hpl hH
      have tok1 := Tok.mk 1
      go_wp2_with (first
        | (go_at_call 60; refine (new_any _ HPr.out (preN s k)).mono ?_; rintro e wa ⟨g, rfl, hg, hrow, hb⟩; have HSa := Lib.hid ((HS.nil wr).below hb); have HDa := Lib.hid (dig_new (preN s k) hrow); have hga : g < wa.heap.size := hrow.lt; clear hrow hb)
        | (go_at_call 61; have hx : Tok 1 := (by assumption); clear hx tok1
           refine (write_any g 0 32 32 (some ⟨b3, 0, none⟩) (preN s k) s _ HDa.out ((HBr.out.below HSa.out.bel).more HSa.out.size) (fun _ ad e => by injection e with e; subst e; show b3 ≠ g; omega) HSl.out HPl.out (by omega) (by omega) (HPr.out.below HSa.out.bel) ⟨by omega, by omega⟩).mono ?_
           rintro e wb ⟨rfl, hd, hgr⟩; have hab := hgr.size; have HSb := Lib.hid (HSa.out.other hgr hg (fun r hr => by cases hr)); have HDb := Lib.hid (hd.congr (m' := s) (fun i _ => by unfold catN; rw [if_neg (by omega), Nat.sub_zero])); clear hd hgr; have tok2 := Tok.mk 2)
        | (refine wpList_as rfl 20 rfl (.int .u8 (k : Int)) ?_ ?_; (· exact ex_cnv rfl rfl (fun w => cvIB k (by omega) w) _))
        | (refine wpList_bs1s rfl (.tmp 20) (.int .u8 (k : Int)) rfl rfl (fun w => run_bs1_B _ w) HSb.out ?_; intro b21 wc hb21 hc21 hbl hs; have HSc := Lib.hid hs; have HDc := Lib.hid (HDb.out.below hbl HDb.out.lt); have hgc : g < b21 := Nat.lt_of_lt_of_le HDb.out.lt hc21; clear hs hbl)
        | (go_at_call 61; have hx : Tok 2 := (by assumption); clear hx tok2
           refine (write_any g 32 1 1 (some ⟨b21, 0, none⟩) s (fun _ => k) _ HDc.out (Rd.of_row (HSc.out.row 0 rfl) (Nat.le_refl _) (HSc.out.lt 0 rfl)) (fun _ ad e => by injection e with e; subst e; show b21 ≠ g; omega) (fun _ => by omega) HSl.out (by omega) (by omega) (HPr.out.below (HSc.out.out (by simp; omega))) ⟨by omega, by omega⟩).mono ?_
           rintro e wd ⟨rfl, hd, hgr⟩; have hgd : g < wd.heap.size := hd.lt; have HSd := Lib.hid ((HSc.out.other hgr hg (by simp; omega)).out (by simp; omega)); have HDd := Lib.hid (show Dig wd g (preN s k) 33 from hd); have HE0 := Lib.hid (HS.nil wd); clear hd hgr; have tok3 := Tok.mk 3)
        | (go_at_call 62; refine (sumd_any g 33 (preN s k) _ HDd.out HPl.out (HPr.out.below HSd.out)).mono ?_; rintro e we ⟨rfl, hb⟩; rw [HHe.out]; have HSe := Lib.hid (HE0.out.below hb); clear hb)
        | (refine wpList_allocL rfl 23 8 rfl rfl HSe.out (Array.replicate 32 (.int .u8 0)) (by kernel_rfl) 32 (u8v fun _ => 0) (by rfl) (zero_at 32 (.int .u8 0)) ?_; intro b8 wf hb8 hc8 hs; have HSf := Lib.hid hs; clear hs)
        | (refine wpList_storeH rfl 23 (.tmp 8) (.tmp 24) rfl HSf.out 0 rfl (u8v H) rfl rfl (by kernel_rfl) (fun _ _ => rfl) ?_; intro wg hs; have HSg := Lib.hid hs; clear hs)
        | (go_at_call 63; refine (read_look (some ⟨b8, 0, none⟩) 32 H _ (Rd.of_row (HSg.out.row 0 rfl) (show 8 ≤ 32 by omega) (HSg.out.lt 0 rfl)) HHl.out).mono ?_; rintro e wh ⟨rfl, hw⟩; rw [hw]; clear hw wh)
        | (refine wpList_as rfl 33 rfl (.int .u64 ((pivN s n k : Nat) : Int)) ?_ ?_; (· rw [← HPv.out]; exact ex_bin rfl rfl rfl rfl (fun w => remU (rdN H 8) n hn HR.out w) _))
        | (refine wpList_build_as rfl 76 #[(0, .tmp 33), (1, .tmp 34)] rfl [(0, .int .u64 ((pivN s n k : Nat) : Int)), (1, .pointer (some ⟨g, 0, none⟩))] rfl _ (built_rnd (pivN s n k) g) ?_)
        | (refine wpList_bs1 rfl Tryd.underlying72 (z := 2) (by kernel_rfl) (by omega) (by omega) (v0 := zeroOf1) (by kernel_rfl) _ rfl (rndF (pivN s n k) g) rfl HSg.out ?_; intro b36 wi hb36 hc36 hs; have HSi := Lib.hid hs; have HBi := Lib.hid (hs.out (by simp; omega)); clear hs)
        | (at_builtin; refine wpList_appZ _ (.tmp 30) (.tmp 36) 72 w3.heap.size (e := 76) (z := zeroOf1) (k := 2) (bytes := 16) (by kernel_rfl) Tryd.underlying72 (by rfl) (by omega) rfl rfl (k + 1) (lstF s n fwd (updD D k g)) rfl rfl (((HRn.out.below HSd.out).below (HBi.out.mono (by omega))).own) (Rd.of_row (HSi.out.row 0 rfl) (Nat.le_refl _) (HSi.out.lt 0 rfl)) (fun i _ => rnd_one _ _ i) rfl lst_cat ⟨by omega, by omega⟩ (by have := HSi.out.size; have := HSd.out.size; omega) ?_; intro A37 c37 wj ho hg37 _; have HO37 := Lib.hid ho; have HG37 := Lib.hid hg37; clear ho hg37))
      go_roundw
      case rel =>
        have hbw := HSd.out.trans (HBi.out.mono HSd.out.size)
        have hwi := HSi.out.size
        have hwd := HSd.out.size
        have hO := (HRn.out.below hbw).own
        refine ⟨k + 1, A37, c37, updD D k g, rfl, by go_num, by omega, ⟨HO37.out, fun r hr => ?_⟩, ((HSr.out.below hbw).appO HG37.out (B := w3.heap.size) (fun ad e => (hO.base_le ad e).1) (by simp; omega)), Nat.le_trans hsz (Nat.le_trans hwd (Nat.le_trans hwi HG37.out.size))⟩
        show Dig wj (if r = k then g else D r) (preN s r) 33 ∧ w3.heap.size ≤ (if r = k then g else D r)
        by_cases h : r = k
        · subst h
          rw [if_pos rfl]
          exact ⟨dig_grown hO HG37.out (HDd.out.below HBi.out hgd), by omega⟩
        · rw [if_neg h]
          have hd := (HRn.out.below hbw).dig r (by omega)
          exact ⟨dig_grown hO HG37.out hd.1, hd.2⟩
      case measure => simp [intOf]; omega
    · obtain rfl : k = 6 := by omega
      go_wp2_with fail
      go_ret
      exact ⟨A, c, rfl, ⟨D, HRn.out.mono hw3⟩, HSr.out.out (by simp; omega)⟩
end Go.Proofs.YtjmbgdldnnmipaaDoor
/- Blocks of bits, and places that walk through rounds. -/
namespace Go.Proofs.YtjmbgdldnnmipaaDoor
set_option maxRecDepth 40000
open Go.RowKit
/-- A pointer is loaded from where it lies. -/
theorem run_ldPtr {P : Program} (w : World) (ad : Addr) (ty e : TypeId) (v : Value) (h : w.cell? ad = some v) (hu : P.underlying ty = some (.pointer e)) : (Instr.loadAt ty (.pointer (some ad))).run P w = .ok v w := by
  simp only [Instr.loadAt, Instr.sureAddr, Sem.run_bind, Sem.run_pure, Result.andThen]
  have hagg : (isAgg ty).run P w = .ok false w := by
    unfold isAgg
    rw [Sem.run_bind, run_underlying hu w]
    rfl
  simp [loadVar, Sem.run_bind, hagg, h]
theorem ex_ldPtr {P : Program} {w : World} {o : Oper} {a : Act} {ty : TypeId} {x : Operand} {ad : Addr} {v : Value} (e : TypeId) (ho : o.op = .load ty x) (hx : a.eval x = .pointer (some ad)) (hu : P.underlying ty = some (.pointer e)) (h : w.cell? ad = some v) : (execOp a.eval o).run P w = .ok (.value v) w := by
  unfold execOp
  rw [ho]
  simp only [hx]
  simp [run_ldPtr w ad ty e v h hu]
open ShufRounds in
set_option maxHeartbeats 4000000 in
theorem block_look (s : Nat → Nat) (hs : ∀ i, s i < 256) (v d r k : Nat) (hr : r < 256) (w : World) (hd : Dig w d (preN s r) 33) (hp : ShaPkg w) :
    Calls Tryd.prog 51 #[.agg (arr 2 (rndF v d)), .int .u64 (k : Int)] w fun e w' => e = .returned (rootV (blkN s r k)) ∧ Below w.heap.size w w' := by
  have hlt := hp.lt
  have HP := Lib.hid hp
  have HD := Lib.hid hd
  have hdl := hd.lt
  have HPl := Lib.hid (preN_lt hs hr)
  have HCl := Lib.hid (show ∀ i, catN 33 (preN s r) (leB k) i < 256 from catN_lt HPl.out (leB_lt k))
  have HS0 := Lib.hid (HS.nil w)
  clear hp hd hs
  go_enter Tryd.func51, Tryd.ntmps51
  go_wp2_with (first
    | (refine wpList_boxL rfl 76 _ 2 rfl rfl HS0.out 2 (rndF v d) rfl ?_; intro b2 w1 hb2 hc2 hs; have HS1 := Lib.hid hs; clear hs)
    | (refine wpList_allocL rfl 23 4 rfl rfl HS1.out (Array.replicate 32 (.int .u8 0)) (by kernel_rfl) 32 (u8v fun _ => 0) (by rfl) (zero_at 32 (.int .u8 0)) ?_; intro b4 w2 hb4 hc4 hs; have HS2 := Lib.hid hs; clear hs)
    | (refine wpList_as rfl 8 rfl (.pointer (some ⟨d, 0, none⟩)) ?_ ?_; (· exact ex_ldPtr _ rfl rfl Tryd.underlying74 (HS2.out.cell 1 1 rfl (by omega))))
    | (go_at_call 64; refine (copy_any d 33 (preN s r) _ (HD.out.below (HS2.out.out (by simp; omega)) hdl)).mono ?_; rintro e w3 ⟨g, rfl, hg, ⟨qd, rd, yd, e1, e2, e3, e4, hrow⟩, hb⟩; have hg2 := HS2.out.size; have hb4g : b4 < g := Nat.lt_of_lt_of_le (HS2.out.lt 0 rfl) hg; have hb2g : b2 < g := Nat.lt_of_lt_of_le (HS2.out.lt 1 rfl) hg; have HS3 := Lib.hid ((HS2.out.below hb).add hrow (by omega) (by simp; omega)); have HE := Lib.hid (And.intro e1 (And.intro e2 (And.intro e3 e4))); clear hb hrow e1 e2 e3 e4)
    | (go_at_call 47; refine (bytes_look k _).mono ?_; rintro e w4 ⟨rfl, hb⟩; have HS4 := Lib.hid (HS3.out.below hb); have hg4 : g < w4.heap.size := HS4.out.lt 0 rfl; clear hb)
    | (refine wpList_allocL rfl 69 6 rfl rfl HS4.out (Array.replicate 8 (.int .u8 0)) (by kernel_rfl) 8 (u8v fun _ => 0) (by rfl) (zero_at 8 (.int .u8 0)) ?_; intro b6 w5 hb6 hc6 hs; have HS5 := Lib.hid hs; clear hs)
    | (refine wpList_storeH rfl 69 (.tmp 6) (.tmp 11) rfl HS5.out 0 rfl (u8v (leB k)) rfl rfl (by kernel_rfl) (fun _ _ => rfl) ?_; intro w6 hs; have HD6 := Lib.hid (show Dig w6 g (preN s r) 33 from ⟨qd, rd, yd, HE.out.1, HE.out.2.1, HE.out.2.2.1, HE.out.2.2.2, hs.row 1 rfl⟩); have HS6 := Lib.hid (hs.sub (rows' := [⟨b6, 69, 8, u8v (leB k)⟩, ⟨b4, 23, 32, u8v fun _ => 0⟩]) (.cons_cons _ (.cons _ (.cons_cons _ (.cons _ (.refl _))))) (by simp; omega)); clear hs)
    | (go_at_call 61
       refine (write_any g 33 4 8 (some ⟨b6, 0, none⟩) (preN s r) (leB k) _ HD6.out (Rd.of_row (HS6.out.row 0 rfl) (show 4 ≤ 8 by omega) (HS6.out.lt 0 rfl)) (fun _ ad e => by injection e with e; subst e; show b6 ≠ g; omega) (leB_lt k) HPl.out (by omega) (by omega) (HP.out.below (HS6.out.out (by simp; omega))) ⟨by omega, by omega⟩).mono ?_
       rintro e w7 ⟨rfl, hd7, hg7⟩; have HS7 := Lib.hid (HS6.out.other hg7 (by omega) (by simp; omega)); have HD7 := Lib.hid hd7; clear hd7 hg7)
    | (go_at_call 62; refine (sumd_any g 37 _ _ HD7.out HCl.out (HP.out.below (HS7.out.out (by simp; omega)))).mono ?_; rintro e w8 ⟨rfl, hb⟩; have HS8 := Lib.hid (HS7.out.below hb); clear hb)
    | (refine wpList_storeH rfl 23 (.tmp 4) (.tmp 16) rfl HS8.out 1 rfl (u8v (blkN s r k)) rfl rfl (by kernel_rfl) (fun _ _ => rfl) ?_; intro w9 hs; have HS9 := Lib.hid hs; clear hs))
  exact ret_rowIs rfl (HS9.out.row 1 rfl) _ rfl Tryd.underlying23 rfl (by kernel_rfl) rfl ⟨rfl, HS9.out.out (by simp; omega)⟩
/-- A round's place: the reference's flip is the program's. -/
theorem flip_mod {v n i : Nat} (hv : v < n) (hi : i < n) : (v + n - i) % n = flipN v n i := by
  unfold flipN
  by_cases h : i ≤ v
  · rw [if_pos h, show v + n - i = (v - i) + n by omega, Nat.add_mod_right, Nat.mod_eq_of_lt (by omega)]
  · rw [if_neg h, Nat.mod_eq_of_lt (by omega)]
namespace ShufWalk
def zR : Nat → Value := fun i => if i = 0 then .int .u64 0 else .pointer none
theorem zR_at : ∀ i, i < 2 → (#[Value.int .u64 0, .pointer none] : Array Value)[i]? = some (zR i) := fun i hi => by
  rcases (show i = 0 ∨ i = 1 by omega) with rfl | rfl <;> rfl
theorem shr8 (p q : Nat) (h : p / 256 = q) (w : World) : (binOp .shr 25 (.int .u64 (p : Int)) (.int .u64 8)).run Tryd.prog w = .ok (.int .u64 (q : Int)) w := by
  subst h
  simp [go_sem]
end ShufWalk
open ShufRounds ShufWalk ShufFn in
set_option maxHeartbeats 8000000 in
theorem walk_look (s : Nat → Nat) (hs : ∀ i, s i < 256) (n : Nat) (hn : n ≤ 4294967296) (ρ : Nat → Nat) (hρ : ∀ k, k < 6 → ρ k < 6) (base : Nat) (A : Option Addr) (c : Nat) (D : Nat → Nat) (i : Nat) (hi : i < n) (w : World) (hr : Rnds base w s n 6 ρ A c D) (hp : ShaPkg w) :
    Calls Tryd.prog 54 #[.int .u64 (i : Int), .int .u64 (n : Int), .slice A 6 c] w fun e w' => e = .returned (.int .u64 ((walkN s n ρ 6 i : Nat) : Int)) ∧ Below w.heap.size w w' := by
  have HP := Lib.hid hp
  have HSl := Lib.hid hs
  have HR := Lib.hid hr
  have Hρ := Lib.hid hρ
  have HWk := Lib.hid (fun k => walk_lt (s := s) (ρ := ρ) hi k)
  obtain ⟨ad, hA, _, _⟩ := hr.own.rd (show 0 < 6 * 2 by omega)
  have had := hr.own.off ad hA
  obtain ⟨g, hg⟩ : ∃ g, g = ad.block := ⟨_, rfl⟩
  rw [← hg] at had
  rw [had] at hA
  subst hA
  clear had hg hp hs hr hρ
  go_enter Tryd.func54, Tryd.ntmps54
  go_wp2_with fail
  go_loopw [0, 14] (fun o0 o14 wr => ∃ k : Nat, o0 = .int .u64 ((walkN s n ρ k i : Nat) : Int) ∧ o14 = .int .i64 (k : Int) ∧ k ≤ 6 ∧ Below w.heap.size w wr) (fun _ ix _ => 6 - (intOf ix).toNat)
  case atStart => exact ⟨0, rfl, rfl, by omega, Below.refl _ _⟩
  case round =>
    obtain ⟨k, rfl, rfl, hk, hw⟩ := hrel
    have HW := Lib.hid hw
    clear hw
    by_cases hk6 : k < 6
    · obtain ⟨x, hx⟩ : ∃ x, x = walkN s n ρ k i := ⟨_, rfl⟩
      obtain ⟨v, hv⟩ : ∃ v, v = pivN s n (ρ k) := ⟨_, rfl⟩
      obtain ⟨d, hd⟩ : ∃ d, d = D (ρ k) := ⟨_, rfl⟩
      obtain ⟨f, hf⟩ : ∃ f, f = flipN v n x := ⟨_, rfl⟩
      obtain ⟨p, hpm⟩ : ∃ p, p = max x f := ⟨_, rfl⟩
      obtain ⟨q, hq⟩ : ∃ q, q = p / 256 := ⟨_, rfl⟩
      obtain ⟨b, hb⟩ : ∃ b, b = bitN (blkN s (ρ k) q) p := ⟨_, rfl⟩
      have HE := Lib.hid (show (if b = true then f else x) = walkN s n ρ (k + 1) i by
        rw [walkN, ← hx]; unfold stepN stepV turnN; rw [← hv, ← hf, ← hpm, ← hq, ← hb])
      have hxn : x < n := by rw [hx]; exact HWk.out k
      have hvn : v < n := by rw [hv]; exact pivN_lt s _ (by omega)
      have hfn : f < n := by rw [hf]; exact flip_lt hvn hxn
      have hpn : p < n := by rw [hpm]; omega
      have hρk := Hρ.out k hk6
      have HRw := HR.out.below HW.out
      have HDk := Lib.hid (show Dig wr d (preN s (ρ k)) 33 by rw [hd]; exact (HRw.dig k hk6).1)
      have HC := Lib.hid (show ∀ q, q < 2 → wr.cell? ⟨g, k * 2 + q, none⟩ = some (rndF v d q) from fun q hq => by
        have h := HRw.own.rd.cells (show k * 2 + q < 6 * 2 by omega)
        rw [add_lit0] at h
        rw [h]
        unfold lstF
        rw [show (k * 2 + q) / 2 = k by omega, show (k * 2 + q) % 2 = q by omega, ← hv, ← hd])
      have HPr := Lib.hid (HP.out.below HW.out)
      have HF := Lib.hid hf.symm
      have HM := Lib.hid (show (p : Int) = if (x : Int) < (f : Int) then (f : Int) else (x : Int) by rw [hpm]; split <;> omega)
      have HQ := Lib.hid hq.symm
      have HBt := Lib.hid hb.symm
      have hdw : d < wr.heap.size := HDk.out.lt
      rw [← hx]
      have HS0 := Lib.hid (HS.nil wr)
      obtain ⟨r, hr⟩ : ∃ r, r = ρ k := ⟨_, rfl⟩
      rw [← hr] at HDk HBt hρk
      clear hx hv hd hf hpm hq hb HRw hr
      cases b
      all_goals
        have tok1 := Tok.mk 1
        go_wp2_with (first
          | (refine wpList_as rfl 16 rfl (.pointer (some ⟨g, k * 2, none⟩)) ?_ ?_; (· exact ex_idx rfl rfl rfl (fun w => (run_idxZ (z := 2) w Tryd.underlying72 (by kernel_rfl) ⟨g, 0, none⟩ (by omega)).trans (by rw [add_lit0])) _))
          | (refine wpList_load_part rfl 76 (.tmp 16) rfl g (k * 2) 2 (rndF v d) rfl _ HC.out Tryd.underlying76 rfl (by kernel_rfl) _ rfl ?_)
          | (refine wpList_allocL rfl 76 8 rfl rfl HS0.out #[.int .u64 0, .pointer none] (by kernel_rfl) 2 zR (by rfl) zR_at ?_; intro b8 w1 hb8 hc8 hs; have HS1 := Lib.hid hs; clear hs)
          | (refine wpList_storeH rfl 76 (.tmp 8) (.tmp 17) rfl HS1.out 0 rfl (rndF v d) rfl rfl (by kernel_rfl) (fun i _ => rnd_one _ _ i) ?_; intro w2 hs; have HS2 := Lib.hid hs; clear hs)
          | (have hx : Tok 1 := (by assumption); refine wpList_load_rd rfl 76 _ rfl 2 _ Tryd.underlying76 rfl (by kernel_rfl) ⟨b8, 0, none⟩ rfl (rndF v d) (fun i hi => by rw [add_lit0]; exact HS2.out.cell 0 i rfl hi) ?_; clear hx tok1; have tok2 := Tok.mk 2)
          | (go_at_call 52; refine (flip_look v d n x _ hvn hxn hn).mono ?_; rintro e w3 ⟨rfl, hb⟩; rw [HF.out]; have HS3 := Lib.hid (HS2.out.below hb); clear hb)
          | (have hx : Tok 2 := (by assumption); refine wpList_load_rd rfl 76 _ rfl 2 _ Tryd.underlying76 rfl (by kernel_rfl) ⟨b8, 0, none⟩ rfl (rndF v d) (fun i hi => by rw [add_lit0]; exact HS3.out.cell 0 i rfl hi) ?_; clear hx tok2)
          | (refine wpList_max rfl rfl .u64 _ _ (p : Int) rfl rfl HM.out ?_)
          | (refine wpList_as rfl 27 rfl (.int .u64 (q : Int)) ?_ ?_; (· exact ex_bin rfl rfl rfl rfl (fun w => shr8 p q HQ.out w) _))
          | (go_at_call 51; refine (block_look s HSl.out v d r q (by omega) _ (HDk.out.below (HS3.out.out (by simp; omega)) hdw) (HPr.out.below (HS3.out.out (by simp; omega)))).mono ?_; rintro e w4 ⟨rfl, hb⟩; have HS4 := Lib.hid (HS3.out.below hb); clear hb)
          | (refine wpList_allocL rfl 23 11 rfl rfl HS4.out (Array.replicate 32 (.int .u8 0)) (by kernel_rfl) 32 (u8v fun _ => 0) (by rfl) (zero_at 32 (.int .u8 0)) ?_; intro b11 w5 hb11 hc11 hs; have HS5 := Lib.hid hs; clear hs)
          | (refine wpList_storeH rfl 23 (.tmp 11) (.tmp 28) rfl HS5.out 0 rfl (u8v (blkN s r q)) rfl rfl (by kernel_rfl) (fun _ _ => rfl) ?_; intro w6 hs; have HS6 := Lib.hid hs; clear hs)
          | (go_at_call 53; refine (bit_look ⟨b11, 0, none⟩ (blkN s r q) p _ (fun i hi => by rw [add_lit0]; exact HS6.out.cell 0 i rfl hi) (blkN_lt s r q) (by omega)).mono ?_; rintro e w7 ⟨rfl, hw⟩; rw [hw, HBt.out]; clear hw w7))
        go_roundw
        case rel => exact ⟨k + 1, by rw [← HE.out]; rfl, by go_num, by omega, HW.out.trans ((HS6.out.out (by simp; omega)).mono HW.out.size)⟩
        case measure => simp [intOf]; omega
    · obtain rfl : k = 6 := by omega
      go_wp2_with fail
      go_ret
      exact ⟨rfl, HW.out⟩
end Go.Proofs.YtjmbgdldnnmipaaDoor
/- slices.Reverse of a list of rounds. (Printed by a program of mine.) -/
namespace Go.Proofs.YtjmbgdldnnmipaaDoor
set_option maxRecDepth 40000
open Go.RowKit
theorem ord_both {P : Program} {ops : Array Oper} {Q : Exit → Act → World → Prop} {md : Region.Mode} {i j fuel : Nat} {o o' : Oper} {listed : Array Bool} {a : Act} {w : World} (hi : ops.toList[i]? = some o) (hj : ops.toList[j]? = some o') (hr : Region.ready md ops listed = [i, j]) (hg : o.guard = none) (hg' : o'.guard = none)
    (h : ∀ K : Act → World → Prop, (∀ a w, wpAny P md ops Q fuel (listed.setIfInBounds i true) a w → K a w) → o.wp P a w K Q)
    (h' : ∀ K : Act → World → Prop, (∀ a w, wpAny P md ops Q fuel (listed.setIfInBounds j true) a w → K a w) → o'.wp P a w K Q) : wpAny P md ops Q (fuel + 1) listed a w :=
  wpAny_ready (rs := [i, j]) hr (by simp) (AllReady.cons (by rw [← Array.getElem?_toList]; exact hi) (fun K hK => by rw [if_pos (by simp [Region.wanted, hg])]; exact h K hK) (AllReady.cons (by rw [← Array.getElem?_toList]; exact hj) (fun K hK => by rw [if_pos (by simp [Region.wanted, hg'])]; exact h' K hK) AllReady.nil))
theorem wp_exv {P : Program} {o : Oper} {a : Act} {w : World} {K : Act → World → Prop} {Q : Exit → Act → World → Prop} (v : Value) (h : (execOp a.eval o).run P w = .ok (.value v) w) (hK : K (a.put o.dst v) w) : o.wp P a w K Q := by
  unfold Oper.wp
  rw [h]
  exact hK
theorem ex_ldPart {P : Program} {w : World} {o : Oper} {a : Act} {ty : TypeId} {x : Operand} {g off n : Nat} {f : Nat → Value} {d : TypeDesc} (ho : o.op = .load ty x) (hx : a.eval x = .pointer (some ⟨g, off, none⟩)) (hu : P.underlying ty = some d) (hd : (match d with | .struct _ | .array _ _ => true | _ => false) = true) (hi : (P.info? ty).map (·.size) = some n) (h : ∀ i, i < n → w.cell? ⟨g, off + i, none⟩ = some (f i)) : (execOp a.eval o).run P w = .ok (.value (.agg (arr n f))) w := by
  unfold execOp
  rw [ho]
  simp only [hx]
  simp [run_loadAt_part w g off n ty d f h hu hd hi]
namespace ShufRev
open ShufRounds
/-- Round numbers where k pairs are swapped. -/
def revN (k : Nat) : Nat → Nat := fun j => if j < k ∨ 6 - k ≤ j then 5 - j else j
theorem rev_step {s : Nat → Nat} {n k j : Nat} {D : Nat → Nat} {F : Nat → Value} (hk : k < 3) (hj : j = 5 - k) (h : ∀ q, q < 12 → F q = lstF s n (revN k) D q) : ∀ q, q < 12 → (fun q => if j * 2 ≤ q ∧ q < j * 2 + 2 then F (k * 2 + (q - j * 2)) else (fun q => if k * 2 ≤ q ∧ q < k * 2 + 2 then F (j * 2 + (q - k * 2)) else F q) q) q = lstF s n (revN (k + 1)) D q := fun q hq => by
  show (if j * 2 ≤ q ∧ q < j * 2 + 2 then F (k * 2 + (q - j * 2)) else (if k * 2 ≤ q ∧ q < k * 2 + 2 then F (j * 2 + (q - k * 2)) else F q)) = _
  by_cases h1 : j * 2 ≤ q ∧ q < j * 2 + 2
  · rw [if_pos h1, h _ (by omega)]
    unfold lstF
    rw [show (k * 2 + (q - j * 2)) / 2 = k by omega, show (k * 2 + (q - j * 2)) % 2 = q % 2 by omega, show revN k k = revN (k + 1) (q / 2) by unfold revN; rw [if_neg (by omega), if_pos (by omega)]; omega]
  · rw [if_neg h1]
    by_cases h2 : k * 2 ≤ q ∧ q < k * 2 + 2
    · rw [if_pos h2, h _ (by omega)]
      unfold lstF
      rw [show (j * 2 + (q - k * 2)) / 2 = j by omega, show (j * 2 + (q - k * 2)) % 2 = q % 2 by omega, show revN k j = revN (k + 1) (q / 2) by unfold revN; rw [if_neg (by omega), if_pos (by omega)]; omega]
    · rw [if_neg h2, h _ hq]
      unfold lstF
      rw [show revN k (q / 2) = revN (k + 1) (q / 2) by
        unfold revN
        by_cases h3 : q / 2 < k ∨ 6 - k ≤ q / 2
        · rw [if_pos h3, if_pos (by omega)]
        · rw [if_neg h3, if_neg (by omega)]]
end ShufRev
open ShufRounds ShufRev in
set_option maxHeartbeats 4000000 in
theorem reverse_look (s : Nat → Nat) (n base : Nat) (g c : Nat) (D : Nat → Nat) (w : World) (hr : Rnds base w s n 6 fwd (some ⟨g, 0, none⟩) c D) :
    Calls Tryd.prog 56 #[.slice (some ⟨g, 0, none⟩) 6 c] w fun e w' => e = .returned (.tuple #[]) ∧ Rnds base w' s n 6 bwd (some ⟨g, 0, none⟩) c D ∧ w.grownBy w' (some g) := by
  obtain ⟨F, hrow, hF, hbg⟩ := hr.own.row
  have hcap := hr.own.cap
  have hcm := hr.own.capM
  have HR := Lib.hid hr
  have HS0 := Lib.hid (HS.own hrow)
  have HF0 := Lib.hid hF
  clear hr hrow hF
  go_enter Tryd.func56, Tryd.ntmps56
  go_wp2_with fail
  go_loopw [2, 3] (fun o2 o3 wr => ∃ (k : Nat) (F : Nat → Value), o2 = .int .i64 (k : Int) ∧ o3 = .int .i64 (5 - (k : Int)) ∧ k ≤ 3 ∧ HS w wr [⟨g, 76, c * 2, F⟩] ∧ ∀ q, q < 12 → F q = lstF s n (revN k) D q) (fun o _ _ => 3 - (intOf o).toNat)
  case atStart => exact ⟨0, F, rfl, rfl, by omega, HS0.out, fun q hq => (HF0.out q hq).trans (by unfold lstF fwd revN; rw [if_neg (by omega)])⟩
  case round =>
    clear HS0 HF0
    obtain ⟨k, F, rfl, rfl, hk, hs, hF⟩ := hrel
    have HSq := Lib.hid hs
    have HF := Lib.hid hF
    clear hs hF
    by_cases hk3 : k < 3
    · obtain ⟨j, hj⟩ : ∃ j, j = 5 - k := ⟨_, rfl⟩
      have HJ := Lib.hid (show (5 - (k : Int)) = (j : Int) by omega)
      have H1c := Lib.hid (show ∀ q, q < 12 → (F q).oneCell' = true from fun q hq => by rw [HF.out q hq]; exact rnd_one _ _ _)
      have hjk : k < j ∧ j < 6 := by omega
      rw [HJ.out]
      clear hj
      go_upto_region 3 with fail
      refine ord_enter (n := 16) (by kernel_rfl) (by kernel_rfl) ?_
      have HSv0 := Lib.hid HSq.out.drew
      generalize wr.drew = wv at HSv0 ⊢
      have HSv := Lib.hid HSv0.out
      have HC := Lib.hid (show ∀ X, X < 6 → ∀ q, q < 2 → wv.cell? ⟨g, X * 2 + q, none⟩ = some (F (X * 2 + q)) from fun X hX q hq => HSv0.out.cell 0 (X * 2 + q) rfl (by omega))
      clear HSq HSv0
      refine ord_take (i := 0) (.slice (some ⟨g, 0, none⟩) 6 c) rfl (by kernel_rfl) (by kernel_rfl) (by kernel_rfl) rfl (fun _ _ _ h => h) (ex_move (.inl rfl) rfl) ?_
      refine ord_take (i := 1) (.int .i64 (k : Int)) rfl (by kernel_rfl) (by kernel_rfl) (by kernel_rfl) rfl (fun _ _ _ h => h) (ex_move (.inl rfl) rfl) ?_
      refine ord_take (i := 2) (.slice (some ⟨g, 0, none⟩) 6 c) rfl (by kernel_rfl) (by kernel_rfl) (by kernel_rfl) rfl (fun _ _ _ h => h) (ex_move (.inl rfl) rfl) ?_
      refine ord_take (i := 3) (.int .i64 (j : Int)) rfl (by kernel_rfl) (by kernel_rfl) (by kernel_rfl) rfl (fun _ _ _ h => h) (ex_move (.inl rfl) rfl) ?_
      refine ord_take (i := 4) (.slice (some ⟨g, 0, none⟩) 6 c) rfl (by kernel_rfl) (by kernel_rfl) (by kernel_rfl) rfl (fun _ _ _ h => h) (ex_move (.inl rfl) rfl) ?_
      refine ord_take (i := 5) (.int .i64 (j : Int)) rfl (by kernel_rfl) (by kernel_rfl) (by kernel_rfl) rfl (fun _ _ _ h => h) (ex_move (.inl rfl) rfl) ?_
      simp only [Act.put, List.setIfInBounds_toArray, List.set_cons_succ, List.set_cons_zero]
      refine ord_take (i := 6) (.pointer (some ⟨g, j * 2, none⟩)) rfl (by kernel_rfl) (by kernel_rfl) (by kernel_rfl) rfl (fun _ _ _ h => h) (ex_idx rfl rfl rfl (fun w => (run_idxZ (z := 2) w Tryd.underlying72 (by kernel_rfl) ⟨g, 0, none⟩ (by omega)).trans (by rw [add_lit0]))) ?_
      refine ord_take (i := 8) (.slice (some ⟨g, 0, none⟩) 6 c) rfl (by kernel_rfl) (by kernel_rfl) (by kernel_rfl) rfl (fun _ _ _ h => h) (ex_move (.inl rfl) rfl) ?_
      refine ord_take (i := 9) (.int .i64 (k : Int)) rfl (by kernel_rfl) (by kernel_rfl) (by kernel_rfl) rfl (fun _ _ _ h => h) (ex_move (.inl rfl) rfl) ?_
      simp only [Act.put, List.setIfInBounds_toArray, List.set_cons_succ, List.set_cons_zero]
      refine ord_take (i := 10) (.pointer (some ⟨g, k * 2, none⟩)) rfl (by kernel_rfl) (by kernel_rfl) (by kernel_rfl) rfl (fun _ _ _ h => h) (ex_idx rfl rfl rfl (fun w => (run_idxZ (z := 2) w Tryd.underlying72 (by kernel_rfl) ⟨g, 0, none⟩ (by omega)).trans (by rw [add_lit0]))) ?_
      simp only [Act.put, List.setIfInBounds_toArray, List.set_cons_succ, List.set_cons_zero]
      refine ord_both (i := 7) (j := 11) rfl rfl (by kernel_rfl) rfl rfl (fun K hK => ?_) (fun K hK => ?_)
      · refine wp_exv (.agg (arr 2 (fun q => F (j * 2 + q)))) (ex_ldPart rfl rfl Tryd.underlying76 rfl (by kernel_rfl) (HC.out _ (by omega))) ?_
        refine hK _ _ ?_
        clear hK
        simp only [Act.put, List.setIfInBounds_toArray, List.set_cons_succ, List.set_cons_zero]
        refine ord_step (i := 11) rfl (by kernel_rfl) rfl (fun K hK => ?_)
        refine wp_exv (.agg (arr 2 (fun q => F (k * 2 + q)))) (ex_ldPart rfl rfl Tryd.underlying76 rfl (by kernel_rfl) (HC.out _ (by omega))) ?_
        refine hK _ _ ?_
        clear hK
        simp only [Act.put, List.setIfInBounds_toArray, List.set_cons_succ, List.set_cons_zero]
        refine ord_step (i := 12) rfl (by kernel_rfl) rfl (fun K hK => ?_)
        refine wp_exv (.pointer (some ⟨g, k * 2, none⟩)) (ex_idx rfl rfl rfl (fun w => (run_idxZ (z := 2) w Tryd.underlying72 (by kernel_rfl) ⟨g, 0, none⟩ (by omega)).trans (by rw [add_lit0])) _) ?_
        refine hK _ _ ?_
        clear hK
        simp only [Act.put, List.setIfInBounds_toArray, List.set_cons_succ, List.set_cons_zero]
        refine ord_step (i := 13) rfl (by kernel_rfl) rfl (fun K hK => ?_)
        refine wp_storeP 76 (.tmp 26) (.tmp 21) rfl HSv.out 0 rfl (k * 2) 2 (fun q => F (j * 2 + q)) rfl rfl (by kernel_rfl) (by omega) (fun q hq => H1c.out _ (by omega)) (fun q => if k * 2 ≤ q ∧ q < k * 2 + 2 then F (j * 2 + (q - k * 2)) else F q) (fun _ _ => rfl) ?_; intro w2 hs; have HS2 := Lib.hid hs; clear hs
        refine hK _ _ ?_
        clear hK
        simp only [Act.put]
        refine ord_step (i := 14) rfl (by kernel_rfl) rfl (fun K hK => ?_)
        refine wp_exv (.pointer (some ⟨g, j * 2, none⟩)) (ex_idx rfl rfl rfl (fun w => (run_idxZ (z := 2) w Tryd.underlying72 (by kernel_rfl) ⟨g, 0, none⟩ (by omega)).trans (by rw [add_lit0])) _) ?_
        refine hK _ _ ?_
        clear hK
        simp only [Act.put, List.setIfInBounds_toArray, List.set_cons_succ, List.set_cons_zero]
        refine ord_step (i := 15) rfl (by kernel_rfl) rfl (fun K hK => ?_)
        refine wp_storeP 76 (.tmp 27) (.tmp 25) rfl HS2.out 0 rfl (j * 2) 2 (fun q => F (k * 2 + q)) rfl rfl (by kernel_rfl) (by omega) (fun q hq => H1c.out _ (by omega)) (fun q => if j * 2 ≤ q ∧ q < j * 2 + 2 then F (k * 2 + (q - j * 2)) else (fun q => if k * 2 ≤ q ∧ q < k * 2 + 2 then F (j * 2 + (q - k * 2)) else F q) q) (fun _ _ => rfl) ?_; intro w3 hs; have HS3 := Lib.hid hs; clear hs
        refine hK _ _ ?_
        clear hK
        simp only [Act.put]
        refine wpAny_done (by kernel_rfl) ?_ _
        go_wp2_with fail
        go_roundw
        case rel => exact ⟨k + 1, fun q => if j * 2 ≤ q ∧ q < j * 2 + 2 then F (k * 2 + (q - j * 2)) else (fun q => if k * 2 ≤ q ∧ q < k * 2 + 2 then F (j * 2 + (q - k * 2)) else F q) q, by go_num, congrArg (Value.int .i64) (by have := HJ.out; omega), by omega, HS3.out, rev_step hk3 (by have := HJ.out; omega) HF.out⟩
        case measure => simp [intOf]; omega
      · refine wp_exv (.agg (arr 2 (fun q => F (k * 2 + q)))) (ex_ldPart rfl rfl Tryd.underlying76 rfl (by kernel_rfl) (HC.out _ (by omega))) ?_
        refine hK _ _ ?_
        clear hK
        simp only [Act.put, List.setIfInBounds_toArray, List.set_cons_succ, List.set_cons_zero]
        refine ord_step (i := 7) rfl (by kernel_rfl) rfl (fun K hK => ?_)
        refine wp_exv (.agg (arr 2 (fun q => F (j * 2 + q)))) (ex_ldPart rfl rfl Tryd.underlying76 rfl (by kernel_rfl) (HC.out _ (by omega))) ?_
        refine hK _ _ ?_
        clear hK
        simp only [Act.put, List.setIfInBounds_toArray, List.set_cons_succ, List.set_cons_zero]
        refine ord_step (i := 12) rfl (by kernel_rfl) rfl (fun K hK => ?_)
        refine wp_exv (.pointer (some ⟨g, k * 2, none⟩)) (ex_idx rfl rfl rfl (fun w => (run_idxZ (z := 2) w Tryd.underlying72 (by kernel_rfl) ⟨g, 0, none⟩ (by omega)).trans (by rw [add_lit0])) _) ?_
        refine hK _ _ ?_
        clear hK
        simp only [Act.put, List.setIfInBounds_toArray, List.set_cons_succ, List.set_cons_zero]
        refine ord_step (i := 13) rfl (by kernel_rfl) rfl (fun K hK => ?_)
        refine wp_storeP 76 (.tmp 26) (.tmp 21) rfl HSv.out 0 rfl (k * 2) 2 (fun q => F (j * 2 + q)) rfl rfl (by kernel_rfl) (by omega) (fun q hq => H1c.out _ (by omega)) (fun q => if k * 2 ≤ q ∧ q < k * 2 + 2 then F (j * 2 + (q - k * 2)) else F q) (fun _ _ => rfl) ?_; intro w2 hs; have HS2 := Lib.hid hs; clear hs
        refine hK _ _ ?_
        clear hK
        simp only [Act.put]
        refine ord_step (i := 14) rfl (by kernel_rfl) rfl (fun K hK => ?_)
        refine wp_exv (.pointer (some ⟨g, j * 2, none⟩)) (ex_idx rfl rfl rfl (fun w => (run_idxZ (z := 2) w Tryd.underlying72 (by kernel_rfl) ⟨g, 0, none⟩ (by omega)).trans (by rw [add_lit0])) _) ?_
        refine hK _ _ ?_
        clear hK
        simp only [Act.put, List.setIfInBounds_toArray, List.set_cons_succ, List.set_cons_zero]
        refine ord_step (i := 15) rfl (by kernel_rfl) rfl (fun K hK => ?_)
        refine wp_storeP 76 (.tmp 27) (.tmp 25) rfl HS2.out 0 rfl (j * 2) 2 (fun q => F (k * 2 + q)) rfl rfl (by kernel_rfl) (by omega) (fun q hq => H1c.out _ (by omega)) (fun q => if j * 2 ≤ q ∧ q < j * 2 + 2 then F (k * 2 + (q - j * 2)) else (fun q => if k * 2 ≤ q ∧ q < k * 2 + 2 then F (j * 2 + (q - k * 2)) else F q) q) (fun _ _ => rfl) ?_; intro w3 hs; have HS3 := Lib.hid hs; clear hs
        refine hK _ _ ?_
        clear hK
        simp only [Act.put]
        refine wpAny_done (by kernel_rfl) ?_ _
        go_wp2_with fail
        go_roundw
        case rel => exact ⟨k + 1, fun q => if j * 2 ≤ q ∧ q < j * 2 + 2 then F (k * 2 + (q - j * 2)) else (fun q => if k * 2 ≤ q ∧ q < k * 2 + 2 then F (j * 2 + (q - k * 2)) else F q) q, by go_num, congrArg (Value.int .i64) (by have := HJ.out; omega), by omega, HS3.out, rev_step hk3 (by have := HJ.out; omega) HF.out⟩
        case measure => simp [intOf]; omega
    · obtain rfl : k = 3 := by omega
      go_wp2_with fail
      go_end0
      have hg := HSq.out.grown g (by simp)
      refine ⟨rfl, ⟨OwnZ.of_rowC (HSq.out.row 0 rfl) hbg hcap hcm (fun q hq => (HF.out q hq).trans ?_), fun r hr => ?_⟩, hg⟩
      · unfold lstF bwd revN
        rw [if_pos (by omega)]
      · have hd := HR.out.dig (5 - r) (by omega)
        exact ⟨dig_grown HR.out.own hg hd.1, hd.2⟩
end Go.Proofs.YtjmbgdldnnmipaaDoor
/- Place and Back, by the program. -/
namespace Go.Proofs.YtjmbgdldnnmipaaDoor
set_option maxRecDepth 40000
open Go.RowKit
/-- What Place and Back say of a place that isn't one. -/
abbrev noPlace : Ending := .returned (.tuple #[.int .u64 0, .int .i64 1])
set_option maxHeartbeats 4000000 in
theorem place_no (s : Nat → Nat) (n i : Nat) (w : World) (h : 4294967296 < n ∨ n ≤ i) :
    Calls Tryd.prog 33 #[.int .u64 (i : Int), .int .u64 (n : Int), rootV s] w fun e w' => e = noPlace ∧ Below w.heap.size w w' := by
  have HS0 := Lib.hid (HS.nil w)
  by_cases h1 : 4294967296 < n
  · have t1 : decide ((4294967296 : Int) < (n : Int)) = true := decide_eq_true (by omega)
    go_enter Tryd.func33, Tryd.ntmps33
    go_wp2_with (refine wpList_boxL rfl 23 _ 5 rfl rfl HS0.out 32 (u8v s) rfl ?_; intro b5 w5 hb5 hc5 hs; have HS5 := Lib.hid hs; clear hs)
    go_ret2
    exact ⟨rfl, HS5.out.out (by simp; omega)⟩
  · have t1 : decide ((4294967296 : Int) < (n : Int)) = false := decide_eq_false (by omega)
    have t2 : decide ((n : Int) ≤ (i : Int)) = true := decide_eq_true (by omega)
    go_enter Tryd.func33, Tryd.ntmps33
    go_wp2_with (refine wpList_boxL rfl 23 _ 5 rfl rfl HS0.out 32 (u8v s) rfl ?_; intro b5 w5 hb5 hc5 hs; have HS5 := Lib.hid hs; clear hs)
    go_ret2
    exact ⟨rfl, HS5.out.out (by simp; omega)⟩
set_option maxHeartbeats 4000000 in
theorem back_no (s : Nat → Nat) (n i : Nat) (w : World) (h : 4294967296 < n ∨ n ≤ i) :
    Calls Tryd.prog 35 #[.int .u64 (i : Int), .int .u64 (n : Int), rootV s] w fun e w' => e = noPlace ∧ Below w.heap.size w w' := by
  have HS0 := Lib.hid (HS.nil w)
  by_cases h1 : 4294967296 < n
  · have t1 : decide ((4294967296 : Int) < (n : Int)) = true := decide_eq_true (by omega)
    go_enter Tryd.func35, Tryd.ntmps35
    go_wp2_with (refine wpList_boxL rfl 23 _ 5 rfl rfl HS0.out 32 (u8v s) rfl ?_; intro b5 w5 hb5 hc5 hs; have HS5 := Lib.hid hs; clear hs)
    go_ret2
    exact ⟨rfl, HS5.out.out (by simp; omega)⟩
  · have t1 : decide ((4294967296 : Int) < (n : Int)) = false := decide_eq_false (by omega)
    have t2 : decide ((n : Int) ≤ (i : Int)) = true := decide_eq_true (by omega)
    go_enter Tryd.func35, Tryd.ntmps35
    go_wp2_with (refine wpList_boxL rfl 23 _ 5 rfl rfl HS0.out 32 (u8v s) rfl ?_; intro b5 w5 hb5 hc5 hs; have HS5 := Lib.hid hs; clear hs)
    go_ret2
    exact ⟨rfl, HS5.out.out (by simp; omega)⟩
set_option maxHeartbeats 4000000 in
theorem place_ok (s : Nat → Nat) (hs : ∀ i, s i < 256) (n i : Nat) (w : World) (hn : n ≤ 4294967296) (hi : i < n) (hp : ShaPkg w) :
    Calls Tryd.prog 33 #[.int .u64 (i : Int), .int .u64 (n : Int), rootV s] w fun e w' => e = .returned (.tuple #[.int .u64 ((placeN s n i : Nat) : Int), .int .i64 0]) ∧ Below w.heap.size w w' := by
  have HS0 := Lib.hid (HS.nil w)
  have HP := Lib.hid hp
  have HSl := Lib.hid hs
  have t1 : decide ((4294967296 : Int) < (n : Int)) = false := decide_eq_false (by omega)
  have t2 : decide ((n : Int) ≤ (i : Int)) = false := decide_eq_false (by omega)
  clear hp hs
  go_enter Tryd.func33, Tryd.ntmps33
  go_wp2_with (first
    | (refine wpList_boxL rfl 23 _ 5 rfl rfl HS0.out 32 (u8v s) rfl ?_; intro b5 w5 hb5 hc5 hs; have HS5 := Lib.hid hs; clear hs)
    | (refine wpList_load_rd rfl 23 _ rfl 32 _ Tryd.underlying23 rfl (by kernel_rfl) ⟨b5, 0, none⟩ rfl (u8v s) (fun i hi => by rw [add_lit0]; exact HS5.out.cell 0 i rfl hi) ?_)
    | (go_at_call 50; refine (rounds_look s HSl.out n (by omega) _ (HP.out.below (HS5.out.out (by simp; omega)))).mono ?_; rintro e w6 ⟨A, c, D, rfl, hr, hb⟩; have HR := Lib.hid hr; have HS6 := Lib.hid (HS5.out.below hb); clear hr hb)
    | (go_at_call 54; refine (walk_look s HSl.out n hn fwd (fun k hk => hk) _ A c D i hi _ HR.out (HP.out.below (HS6.out.out (by simp; omega)))).mono ?_; rintro e w7 ⟨rfl, hb⟩; have HS7 := Lib.hid (HS6.out.below hb); clear hb))
  go_ret2
  exact ⟨rfl, HS7.out.out (by simp; omega)⟩
open ShufRounds in
set_option maxHeartbeats 4000000 in
theorem back_ok (s : Nat → Nat) (hs : ∀ i, s i < 256) (n i : Nat) (w : World) (hn : n ≤ 4294967296) (hi : i < n) (hp : ShaPkg w) :
    Calls Tryd.prog 35 #[.int .u64 (i : Int), .int .u64 (n : Int), rootV s] w fun e w' => e = .returned (.tuple #[.int .u64 ((backN s n i : Nat) : Int), .int .i64 0]) ∧ Below w.heap.size w w' := by
  have HS0 := Lib.hid (HS.nil w)
  have HP := Lib.hid hp
  have HSl := Lib.hid hs
  have t1 : decide ((4294967296 : Int) < (n : Int)) = false := decide_eq_false (by omega)
  have t2 : decide ((n : Int) ≤ (i : Int)) = false := decide_eq_false (by omega)
  clear hp hs
  go_enter Tryd.func35, Tryd.ntmps35
  go_wp2_with (first
    | (refine wpList_boxL rfl 23 _ 5 rfl rfl HS0.out 32 (u8v s) rfl ?_; intro b5 w5 hb5 hc5 hs; have HS5 := Lib.hid hs; clear hs)
    | (refine wpList_load_rd rfl 23 _ rfl 32 _ Tryd.underlying23 rfl (by kernel_rfl) ⟨b5, 0, none⟩ rfl (u8v s) (fun i hi => by rw [add_lit0]; exact HS5.out.cell 0 i rfl hi) ?_)
    | (go_at_call 50; refine (rounds_look s HSl.out n (by omega) _ (HP.out.below (HS5.out.out (by simp; omega)))).mono ?_; rintro e w6 ⟨A, c, D, rfl, hr, hb⟩; obtain ⟨ad, hA, _, _⟩ := hr.own.rd (show 0 < 6 * 2 by omega); have had := hr.own.off ad hA; obtain ⟨g, hg⟩ : ∃ g, g = ad.block := ⟨_, rfl⟩; rw [← hg] at had; rw [had] at hA; subst hA; have HR := Lib.hid hr; have HW6 := Lib.hid (((HS5.out.out (by simp; omega)).trans (hb.mono HS5.out.size))); have h5 := HS5.out.size; clear hr hb had hg)
    | (go_at_call 56; refine (reverse_look s n _ g c D _ HR.out).mono ?_; rintro e w7 ⟨rfl, hr, hg⟩; have hbg := (HR.out.own.base_le _ rfl).1; have HR7 := Lib.hid hr; have HW7 := Lib.hid (HW6.out.grown hg HW6.out.size (fun k hk => by injection hk with hk; have : (⟨g, 0, none⟩ : Addr).block = g := rfl; omega)); clear hr hg)
    | (go_at_call 54; refine (walk_look s HSl.out n hn bwd (fun k hk => by unfold bwd; omega) _ (some ⟨g, 0, none⟩) c D i hi _ HR7.out (HP.out.below HW7.out)).mono ?_; rintro e w8 ⟨rfl, hb⟩; have HW8 := Lib.hid (HW7.out.trans (hb.mono HW7.out.size)); clear hb))
  go_ret2
  exact ⟨rfl, HW8.out⟩
end Go.Proofs.YtjmbgdldnnmipaaDoor
/- A round done to a whole list: pairs are swapped. -/
namespace Go.Proofs.YtjmbgdldnnmipaaDoor
set_option maxRecDepth 40000
/-- Where a place is taken by the last k rounds, the first of them first. -/
def lastN (s : Nat → Nat) (n : Nat) : Nat → Nat → Nat
  | 0, i => i
  | k + 1, i => lastN s n k (stepN s n (5 - k) i)
theorem last_place (s : Nat → Nat) (n i : Nat) : lastN s n 6 i = placeN s n i := rfl
theorem last_lt {s : Nat → Nat} {n : Nat} : ∀ (k i : Nat), i < n → lastN s n k i < n := by
  intro k
  induction k with
  | zero => intro i hi; exact hi
  | succ k ih => intro i hi; exact ih _ (step_lt hi)
/-- The list when the pairs whose lower place is below i are done. -/
def swF (s : Nat → Nat) (n v r i : Nat) (G : Nat → Nat) : Nat → Nat := fun q => if min q (flipN v n q) < i then G (stepV s n v r q) else G q
theorem sw_zero (s : Nat → Nat) (n v r : Nat) (G : Nat → Nat) : swF s n v r 0 G = G := by
  funext q
  unfold swF
  rw [if_neg (by omega)]
theorem sw_end {s : Nat → Nat} {n v r q : Nat} {G : Nat → Nat} (hq : q < n) : swF s n v r n G q = G (stepV s n v r q) := by
  unfold swF
  rw [if_pos (by omega)]
theorem sw_skip {s : Nat → Nat} {n v r i q : Nat} {G : Nat → Nat} (hv : v < n) (hq : q < n) (h : ¬ (i < flipN v n i ∧ turnN s r i (flipN v n i) = true)) : swF s n v r (i + 1) G q = swF s n v r i G q := by
  unfold swF
  by_cases h1 : min q (flipN v n q) < i
  · rw [if_pos h1, if_pos (by omega)]
  · rw [if_neg h1]
    by_cases h2 : min q (flipN v n q) < i + 1
    · rw [if_pos h2]
      have h3 : min q (flipN v n q) = i := by omega
      by_cases hqi : q = i
      · subst hqi
        unfold stepV
        by_cases ht : turnN s r q (flipN v n q) = true
        · rw [if_pos ht]
          have : ¬ q < flipN v n q := fun hlt => h ⟨hlt, ht⟩
          rw [show flipN v n q = q by omega]
        · rw [if_neg ht]
      · have hf : flipN v n q = i := by omega
        have hfi : flipN v n i = q := by rw [← hf]; exact flip_flip hv hq
        unfold stepV
        rw [hf, turn_comm]
        rw [hfi] at h
        have ht : ¬ turnN s r i q = true := fun ht => h ⟨by omega, ht⟩
        rw [if_neg ht]
    · rw [if_neg h2]
theorem sw_swap {s : Nat → Nat} {n v r i q f : Nat} {G : Nat → Nat} (hv : v < n) (hi : i < n) (hq : q < n) (hf : f = flipN v n i) (h : i < f) (ht : turnN s r i f = true) : swF s n v r (i + 1) G q = if q = f then swF s n v r i G i else if q = i then swF s n v r i G f else swF s n v r i G q := by
  have hfi : flipN v n f = i := by rw [hf]; exact flip_flip hv hi
  unfold swF
  by_cases h1 : q = f
  · subst h1
    rw [if_pos rfl, hfi, if_pos (by omega), ← hf, if_neg (by omega)]
    unfold stepV
    rw [hfi, turn_comm, if_pos ht]
  · rw [if_neg h1]
    by_cases h2 : q = i
    · subst h2
      rw [if_pos rfl, ← hf, if_pos (by omega), hfi, if_neg (by omega)]
      unfold stepV
      rw [← hf, if_pos ht]
    · rw [if_neg h2]
      by_cases h3 : min q (flipN v n q) < i
      · rw [if_pos h3, if_pos (by omega)]
      · rw [if_neg h3, if_neg]
        intro h4
        have h5 : flipN v n q = i := by omega
        have : flipN v n i = q := by rw [← h5]; exact flip_flip hv hq
        omega
/-- A round's pass over the list takes what k rounds left to what k + 1 rounds leave. -/
theorem sw_last {s : Nat → Nat} {n k q : Nat} {x : Nat → Nat} (hq : q < n) : swF s n (pivN s n (5 - k)) (5 - k) n (fun i => x (lastN s n k i)) q = x (lastN s n (k + 1) q) := by
  rw [sw_end hq]
  rfl
end Go.Proofs.YtjmbgdldnnmipaaDoor
