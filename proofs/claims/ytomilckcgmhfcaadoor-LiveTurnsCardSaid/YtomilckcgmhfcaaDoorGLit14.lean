/- Lemmas that the proof stands on. -/
import Derived.Test.YtomilckcgmhfcaaDoorGLit13
namespace Go.Proofs.YtomilckcgmhfcaaDoor
set_option maxRecDepth 40000
set_option maxHeartbeats 64000000
open Go.RowKit
def dirB (n : Nat) (dw : Nat → Nat) (a : Nat) : Bool := decide (a / 64 < n) && (dw (a / 64)).testBit (a % 64)
namespace TreeMark
theorem shr6 (i k : Nat) (hk : i / 64 = k) (w : World) : (binOp .shr 3 (.int .i64 (i : Int)) (.int .u64 6)).run Tryd.prog w = .ok (.int .i64 (k : Int)) w := by
 subst hk
 simp [go_sem]
theorem and63 (i r : Nat) (hr : i % 64 = r) (hi : i < 4611686018427387904) (w : World) : (binOp .and 3 (.int .i64 (i : Int)) (.int .i64 63)).run Tryd.prog w = .ok (.int .i64 (r : Int)) w := by
 have h2 : bits .and .i64 (i : Int) 63 = (r : Int) := by
  show IntKind.i64.wrap ((BitVec.ofInt 64 (i : Int) &&& BitVec.ofInt 64 (63 : Int)).toNat : Int) = _
  rw [BitVec.toNat_and, BitVec.ofInt_natCast, BitVec.toNat_ofNat, Nat.mod_eq_of_lt (by omega), show (BitVec.ofInt 64 (63 : Int)).toNat = 2 ^ 6 - 1 by rfl, Nat.and_two_pow_sub_one_eq_mod]
  simp [IntKind.wrap, IntKind.bits, IntKind.signed]
  omega
 simp [go_sem, h2]
theorem shl1 (r p : Nat) (hp : 2 ^ r = p) (hr : r < 64) (w : World) : (binOp .shl 22 (.int .u64 1) (.int .i64 (r : Int))).run Tryd.prog w = .ok (.int .u64 (p : Int)) w := by
 have h1 : 2 ^ r ≤ 2 ^ 63 := Nat.pow_le_pow_right (by omega) (by omega)
 have h2 : ((2 ^ r : Nat) : Int) ≤ 9223372036854775808 := by have : (2 : Nat) ^ 63 = 9223372036854775808 := by decide
                                                             omega
 have h0 : (0 : Int) ≤ ((2 ^ r : Nat) : Int) := Int.natCast_nonneg _
 have e : ((2 ^ r : Nat) : Int) = (2 : Int) ^ r := by simp
 subst hp
 rw [e] at h2 h0
 simp [go_sem, IntKind.wrap, IntKind.bits, IntKind.signed]
 generalize (2 : Int) ^ r = y at h2 h0
 rw [Int.emod_eq_of_lt h0 (by omega)]
theorem orW (a b o : Nat) (ho : a ||| b = o) (ha : a < 18446744073709551616) (hb : b < 18446744073709551616) (w : World) : (binOp .or 22 (.int .u64 (a : Int)) (.int .u64 (b : Int))).run Tryd.prog w = .ok (.int .u64 (o : Int)) w := by
 subst ho
 exact ShufFn.orU a b ha hb w
theorem ixW (w : World) (b n c k : Nat) (hk : k < n) : (Instr.indexAt 37 (.slice (some ⟨b, 0, none⟩) n c) (.int .i64 (k : Int))).run Tryd.prog w = .ok (.pointer (some ⟨b, k, none⟩)) w := by
 have h := zaw (z := 1) (k := k) (P := Tryd.prog) (c := c) w Ty37 (by kernel_rfl) ⟨b, 0, none⟩ hk
 rw [zai, Nat.mul_one] at h
 exact h
theorem geI (a b : Nat) (h : b ≤ a) (w : World) : (binOp .geq 3 (.int .i64 (a : Int)) (.int .i64 (b : Int))).run Tryd.prog w = .ok (.bool true) w := by
 simp [go_sem]; omega
theorem geI' (a b : Nat) (h : a < b) (w : World) : (binOp .geq 3 (.int .i64 (a : Int)) (.int .i64 (b : Int))).run Tryd.prog w = .ok (.bool false) w := by
 simp [go_sem]; omega
theorem zqm (w : World) : (Instr.buildSlice 37 1 #[(0, .int .u64 0)]).run Tryd.prog w = .ok (.slice (some ⟨w.heap.size, 0, none⟩) 1 1) (w.alloc (.cells #[.int .u64 0] 22)) := by simp [go_sem]
theorem stSl (A : Option Addr) (n c : Nat) (w : World) (ad : Addr) (u : Value) (h : w.cell? ad = some u) (hf : w.frozen? ad = false) : (Instr.storeAt 37 (.pointer (some ad)) (.slice A n c)).run Tryd.prog w = .ok () (w.setCell ad (.slice A n c)) := by
 simp [go_sem, h, hf]
def moreW (n : Nat) (dw : Nat → Nat) : Nat → Nat := fun k => if k < n then dw k else 0
theorem zsc (n : Nat) (dw : Nat → Nat) : ∀ i, i < (n + 1) * 1 → catF (n * 1) (u64v dw) (fun _ => .int .u64 0) i = u64v (moreW n dw) i := fun i _ => by
 simp only [catF, u64v, moreW, Nat.mul_one]
 split <;> rfl
theorem zsd (n : Nat) (dw : Nat → Nat) (a : Nat) : dirB (n + 1) (moreW n dw) a = dirB n dw a := by
 unfold dirB moreW
 by_cases h : a / 64 < n
 ·rw [if_pos h]; simp [h, show a / 64 < n + 1 by omega]
 ·rw [if_neg h]; simp [h]
theorem zwd (n : Nat) (dw dw' : Nat → Nat) (i : Nat) (hi : i / 64 < n) (h : ∀ k, k < n → dw' k = if k = i / 64 then dw k ||| 2 ^ (i % 64) else dw k) (a : Nat) : dirB n dw' a = (dirB n dw a || a == i) := by
 unfold dirB
 by_cases hn : a / 64 < n
 ·simp only [hn, decide_true, Bool.true_and]
  rw [h _ hn]
  by_cases hk : a / 64 = i / 64
  ·rw [if_pos hk, Nat.testBit_or, Nat.testBit_two_pow]
   congr 1
   by_cases hr : i % 64 = a % 64
   ·have : a = i := by omega
    simp [hr, this]
   ·have : ¬ a = i := fun e => hr (by rw [e])
    simp [hr, this]
  ·rw [if_neg hk]
   have : ¬ a = i := fun e => hk (by rw [e])
   simp [this]
 ·have : ¬ a = i := fun e => hn (by rw [e]; exact hi)
  simp [hn, this]
def wordsLeft (k T : Nat) (w : World) : Nat := match w.cell? ⟨T, 3, none⟩ with | some (.slice _ m _) => k + 1 - m | _ => 0
theorem zhw {k T m c : Nat} {A : Option Addr} {w : World} (h : w.cell? ⟨T, 3, none⟩ = some (.slice A m c)) : wordsLeft k T w = k + 1 - m := by
 unfold wordsLeft; rw [h]
theorem zuo {n : Nat} {dw : Nat → Nat} (h : ∀ k, k < n → dw k < 18446744073709551616) : ∀ k, k < n + 1 → moreW n dw k < 18446744073709551616 := fun k _ => by
 unfold moreW
 split
 ·exact h k (by assumption)
 ·omega
theorem zwe {n o q : Nat} {dw : Nat → Nat} (ho : o < 18446744073709551616) (h : ∀ k, k < n → dw k < 18446744073709551616) : ∀ k, k < n → (fun k => if k = q then o else dw k) k < 18446744073709551616 := fun k hk => by
 show (if k = q then o else dw k) < _
 split
 ·exact ho
 ·exact h k hk
theorem zwf {i k r p o n : Nat} {dw : Nat → Nat} (hk : k = i / 64) (hr : i % 64 = r) (hp : 2 ^ r = p) (ho : dw k ||| p = o) : ∀ q, q < n → (fun q => if q = k then o else dw q) q = if q = i / 64 then dw q ||| 2 ^ (i % 64) else dw q := fun q _ => by
 rw [← hk, hr, hp]
 show (if q = k then o else dw q) = _
 by_cases e : q = k
 ·rw [if_pos e, if_pos e, e, ho]
 ·rw [if_neg e, if_neg e]
end TreeMark
open TreeMark in
theorem zkz (v : TV) (base T i : Nat) (hi : i < 4611686018427387904) (w : World) (h : TM w base T v) (hdw : ∀ k, k < v.dn → v.dw k < 18446744073709551616) (hi2 : i / 64 < 1073741824) :
 Calls Tryd.prog 98 #[tpV T, .int .i64 (i : Int)] w fun r w' => ∃ A' n' c' dw', r = .returned (.tuple #[]) ∧ TM w' base T { v with dA := A', dn := n', dc := c', dw := dw' } ∧ TStep w w' T v { v with dA := A', dn := n', dc := c', dw := dw' } ∧
  (∀ k, k < n' → dw' k < 18446744073709551616) ∧ (n' = v.dn ∨ n' = i / 64 + 1) ∧ ∀ a, dirB n' dw' a = (dirB v.dn v.dw a || a == i) := by
 have H0 := Hd h
 have HD0 := Hd hdw
 obtain ⟨k, hk⟩ : ∃ k, k = i / 64 := ⟨_, rfl⟩
 have HKd := Hd hk
 have hk1 : k * 64 ≤ i ∧ i < k * 64 + 64 := by omega
 rw [← hk] at hi2
 clear h hdw hk
 go_enter Tryd.func98, Tryd.ntmps98
 go_wp2_with fail
 go_loopw [] (fun wr => ∃ (A1 : Option Addr) (n1 c1 : Nat) (dw1 : Nat → Nat), TM wr base T { v with dA := A1, dn := n1, dc := c1, dw := dw1 } ∧ TStep w wr T v { v with dA := A1, dn := n1, dc := c1, dw := dw1 } ∧ (∀ k, k < n1 → dw1 k < 18446744073709551616) ∧ (n1 = v.dn ∨ n1 ≤ k + 1 ∧ v.dn ≤ n1) ∧ ∀ a, dirB n1 dw1 a = dirB v.dn v.dw a) (fun wr => wordsLeft k T wr)
 case atStart => exact ⟨v.dA, v.dn, v.dc, v.dw, H0.out, TStep.refl (Below.refl _ _), HD0.out, .inl rfl, fun _ => rfl⟩
 case round =>
  obtain ⟨A1, n1, c1, dw1, hm, hst, hb, hn1, hdir⟩ := hrel
  have HM := Hd hm
  have HST := Hd hst
  have HB := Hd hb
  have HDir := Hd hdir
  have h3 := hm.c3
  clear hm hst hb hdir
  have hbw := HM.out.base_le
  by_cases hkn : n1 ≤ k
  ·have HNq := Hd (HS.nil wr)
   have hk64 : n1 < 1073741824 := by omega
   go_wp2_with (first
    | (refine zab rfl 5 rfl (.int .i64 (k : Int)) ?_ ?_; (· exact za1 rfl rfl rfl rfl (fun w => shr6 i k HKd.out.symm w) _))
    | (refine zab rfl 11 rfl (.bool true) ?_ ?_; (· exact za1 rfl rfl rfl rfl (fun w => geI k n1 hkn w) _))
    | (at_builtin; refine zba _ (.tmp 16) (.tmp 17) 37 base (e := 22) (z := .int .u64 0) (k := 1) (bytes := 8) (by kernel_rfl) Ty37 (by rfl) (by omega) rfl rfl (n1 + 1) (u64v (moreW n1 dw1)) rfl rfl HM5.out.dr (Rd.of_row (n := 1 * 1) HR5.out lR HR5.out.lt) (fun _ _ => rfl) rfl (zsc n1 dw1) ⟨by omega, by omega⟩ HM5.out.base_le ?_; intro A2 c2 w6 ho hg ha; have HT6 := Hd (HM5.out.rowD (r0 := 2) (by omega) (fun b hb => hb) hg); have HM6 := Hd (HM5.out.setD hg ho (zgp ha)); have HST6 := Hd (TStep.ofD (T := T) (v := { v with dA := A1, dn := n1, dc := c1, dw := dw1 }) (n' := n1 + 1) (c' := c2) (dw' := moreW n1 dw1) hg (zgp ha)); clear ho hg ha)
    | (refine zcj rfl (.const (.int .u64 0)) (.int .u64 0) rfl rfl (fun w => zqm w) HNq.out ?_; intro b5 w5 hb5 hc5 hbl hs; have HR5 := Hd (hs.row 0 rfl); have HM5 := Hd (HM.out.below hbl); have HB5 := Hd hbl; clear hs hbl)
    | (refine zdu rfl 37 (.tmp 20) (.tmp 18) rfl HT6.out 3 (by omega) (.slice A2 (n1 + 1) c2) (stSl _ _ _) rfl rfl ?_; have HME := Hd HM6.out; have HSE := Hd ((HST.out.trans (TStep.refl HB5.out)).trans HST6.out); clear HM6 HST6 HT6))
   go_roundw
   case rel => exact ⟨A2, n1 + 1, c2, moreW n1 dw1, HME.out, HSE.out, zuo HB.out, .inr ⟨by omega, by omega⟩, fun a => by rw [zsd]; exact HDir.out a⟩
   case measure => rw [zhw HME.out.c3, zhw h3]; show k + 1 - (n1 + 1) < k + 1 - n1; omega
  ·have hkn : k < n1 := by omega
   obtain ⟨bd, hbd⟩ := zdv HM.out.dr (by show 0 < n1; omega)
   simp only at hbd
   subst hbd
   obtain ⟨r, hr2⟩ : ∃ r, i % 64 = r := ⟨_, rfl⟩
   have hr : r < 64 := by omega
   obtain ⟨p, hp⟩ : ∃ p, 2 ^ r = p := ⟨_, rfl⟩
   have hp64 : p < 18446744073709551616 := by rw [← hp]; exact Nat.lt_of_le_of_lt (Nat.pow_le_pow_right (by omega) (show r ≤ 63 by omega)) (by decide)
   obtain ⟨o, ho2⟩ : ∃ o, dw1 k ||| p = o := ⟨_, rfl⟩
   have ho64 : o < 18446744073709551616 := by rw [← ho2]; exact Nat.or_lt_two_pow (n := 64) (HB.out k hkn) hp64
   have HR := Hd hr2
   have HPw := Hd hp
   have HOr := Hd ho2
   have HDk := Hd (HB.out k hkn)
   have HCk : Hid (∀ w', Below wr.heap.size wr w' → w'.cell? ⟨bd, k, none⟩ = some (.int .u64 ((dw1 k : Nat) : Int))) := Hd (fun w' hb => by
    have hd : OwnZ w' base 22 1 (some ⟨bd, 0, none⟩) n1 c1 (u64v dw1) := (HM.out.below hb).dr
    have h1 := hd.rd.cells (i := k) (show k < n1 * 1 by omega)
    rw [zai] at h1
    exact h1)
   clear hr2 hp ho2 h3
   go_upto_region 2 with (first
    | (refine zab rfl 5 rfl (.int .i64 (k : Int)) ?_ ?_; (· exact za1 rfl rfl rfl rfl (fun w => shr6 i k HKd.out.symm w) _))
    | (refine zab rfl 9 rfl (.slice (some ⟨bd, 0, none⟩) n1 c1) ?_ ?_; (· exact zan rfl rfl Ty37 HM.out.c3 rfl))
    | (refine zab rfl 11 rfl (.bool false) ?_ ?_; (· exact za1 rfl rfl rfl rfl (fun w => geI' k n1 hkn w) _)))
   refine zao (l := [_, _, _, _, _, _, _, _, _, _, _, _, _]) (tl := []) (B := wr.heap.size) (w0 := wr) [sI (.pointer (some ⟨T, 0, none⟩)), sI (.pointer (some ⟨T, 0, none⟩)), sI (.pointer (some ⟨T, 3, none⟩)), sI (.slice (some ⟨bd, 0, none⟩) (n1) (c1)), sI (.int .i64 ((i : Nat) : Int)), sI (.int .i64 ((k : Nat) : Int)), sI (.pointer (some ⟨bd, k, none⟩)), sI (.int .u64 ((dw1 k : Nat) : Int)), sI (.int .i64 ((i : Nat) : Int)), sI (.int .i64 ((r : Nat) : Int)), sI (.int .u64 ((p : Nat) : Int)), sI (.int .u64 ((o : Nat) : Int)), sI (.pointer (some ⟨bd, k, none⟩))] (by kernel_rfl) (by kernel_rfl) rfl lR (Below.refl _ _) ⟨?_, ?_, ?_, ?_, ?_, ?_, ?_, ?_, ?_, ?_, ?_, ?_, ?_, trivial⟩ ?_
   ·exact (zaa _ rfl (.inl rfl) rfl)
   ·exact zar _ rfl rfl (oT rfl)
   ·exact zal rfl rfl (oT rfl) (fun w => by simp [go_sem])
   ·exact zad rfl rfl (oT rfl) (fun w' hb => PickDraw.za3 w' _ _ _ _ ((HM.out.below hb).c3) Ty37)
   ·exact (zaa _ rfl (.inl rfl) rfl)
   ·exact za0 rfl rfl rfl (oT rfl) OpK.const (fun w => shr6 i k HKd.out.symm w)
   ·exact zak rfl rfl (oT rfl) (oT rfl) (fun w => ixW w bd n1 c1 k hkn)
   ·exact zad rfl rfl (oT rfl) (fun w' hb => zcf w' _ _ .u64 _ (HCk.out w' hb) Ty22)
   ·exact (zaa _ rfl (.inl rfl) rfl)
   ·exact za0 rfl rfl rfl (oT rfl) OpK.const (fun w => and63 i r HR.out hi w)
   ·exact za0 rfl rfl rfl OpK.const (oT rfl) (fun w => shl1 r p HPw.out hr w)
   ·exact za0 rfl rfl rfl (oT rfl) (oT rfl) (fun w => orW (dw1 k) p o HOr.out HDk.out hp64 w)
   ·exact zak rfl rfl (oT rfl) (oT rfl) (fun w => ixW w bd n1 c1 k hkn)
   ·intro w' hb
    simp only [fin, sI, forall_eq]
    simp only [pcX]
    have HM5 := Hd (HM.out.below hb)
    have HS5 := Hd (HST.out.trans (TStep.refl hb))
    clear hb
    have hcap : n1 ≤ c1 := HM5.out.dr.cap
    obtain ⟨F, hrow, _, _⟩ := HM5.out.dr.row
    refine zmg 22 (.tmp 33) (.tmp 32) rfl hrow k (show k < c1 * 1 by omega) (.int .u64 ((o : Nat) : Int)) (ShufLawOps.stU _) rfl rfl ?_
    have hset := HM5.out.dr.setC k (.int .u64 ((o : Nat) : Int)) (g := u64v fun q => if q = k then o else dw1 q) (fun j _ => by simp only [u64v]; split <;> rfl)
    have HM6 := Hd (HM5.out.setW hset.2 hset.1)
    have HS6 := Hd (HS5.out.trans (TStep.ofW (T := T) (v := { v with dA := some ⟨bd, 0, none⟩, dn := n1, dc := c1, dw := dw1 }) (dw' := fun q => if q = k then o else dw1 q) hset.2))
    clear hset hrow HM5 HS5 HM HST
    simp only [seqWp, Act.put]
    go_wp2_with fail
    go_end0
    exact ⟨rfl, some ⟨bd, 0, none⟩, n1, c1, fun q => if q = k then o else dw1 q, HM6.out, HS6.out, zwe ho64 HB.out, by omega, fun a => by
     rw [zwd n1 dw1 _ i (by omega) (zwf HKd.out HR.out HPw.out HOr.out) a, HDir.out a]⟩
namespace TreeGet
theorem ltI0 (k : Nat) (w : World) : (binOp .lss 3 (.int .i64 (k : Int)) (.int .i64 0)).run Tryd.prog w = .ok (.bool false) w := by
 simp [go_sem]
theorem idxR (w : World) (b n c k : Nat) (hk : k < n) : (Instr.indexAt 32 (.slice (some ⟨b, 0, none⟩) n c) (.int .i64 (k : Int))).run Tryd.prog w = .ok (.pointer (some ⟨b, k * 32, none⟩)) w := by
 have h := zaw (z := 32) (k := k) (P := Tryd.prog) (c := c) w Ty32 (by kernel_rfl) ⟨b, 0, none⟩ hk
 rw [zai] at h
 exact h
end TreeGet
def fieldsB (chk : TypeId → Bool) (sz : TypeId → Nat) : List Field → Nat → Nat → Bool
  | [], o, n => o == n
  | x :: r, o, n => x.offset == o && x.name != "_" && chk x.type && decide (0 < sz x.type) && fieldsB chk sz r (o + sz x.type) n
def flatB (P : Program) : Nat → TypeId → Nat → Bool
  | 0, _, _ => false
  | f + 1, t, n => decide ((P.info? t).map (·.size) = some n) && match P.underlying t with
   | some (.int _) => n == 1
   | some .bool => n == 1
   | some (.array m e) => flatB P f e (P.cellsOf e) && (m * P.cellsOf e == n) && decide (0 < P.cellsOf e)
   | some (.struct fs) => !P.stoodInHeld t && fieldsB (fun e => flatB P f e (P.cellsOf e)) P.cellsOf fs.toList 0 n
   | _ => false
def kindsOk (P : Program) (l : TypeId) (a b : Value) : Prop := match P.underlying l with
 | some (.int k) => ∃ x y, a = .int k x ∧ b = .int k y
 | some .bool => ∃ x y, a = .bool x ∧ b = .bool y
 | _ => True
def vAt (P : Program) (t : TypeId) (n o : Nat) (F : Nat → Value) : Value := match P.underlying t with
 | some (.array _ _) => .agg (arr n fun q => F (o + q))
 | some (.struct _) => .agg (arr n fun q => F (o + q))
 | _ => F o
theorem znk (N : Nat) (F : Nat → Value) (a z : Nat) (h : a + z ≤ N) : (arr N F).extract a (a + z) = arr z (fun q => F (a + q)) := by
 apply Array.ext_getElem?
 intro i
 by_cases hi : i < z
 ·rw [zaq _ _ i hi, Array.getElem?_extract]
  simp only [zam]
  rw [if_pos (by omega), zaq N F (a + i) (by omega)]
 ·rw [Array.getElem?_eq_none (by simp [zam]; omega), Array.getElem?_eq_none (by rw [zam]; omega)]
section
variable {P : Program}
theorem zfn (w : World) {e : TypeId} {z f : Nat} (hf : flatB P f e z = true) (N : Nat) (F : Nat → Value) (o a : Nat) (h : a + z ≤ N) (hz : 0 < z) : (part e (arr N fun q => F (o + q)) a).run P w = .ok (vAt P e z (o + a) F) w := by
 cases f with
 | zero => cases hf
 | succ f =>
  unfold flatB at hf
  simp only [Bool.and_eq_true, decide_eq_true_eq] at hf
  obtain ⟨h1, h2⟩ := hf
  have hs := zcm h1
  have one : ∀ (hag : (isAgg e).run P w = .ok false w), (part e (arr N fun q => F (o + q)) a).run P w = .ok (F (o + a)) w := fun hag => by
   have ha : (arr N fun q => F (o + q))[a]? = some (F (o + a)) := zaq _ _ a (by omega)
   simp [part, hag, ha]
  have many : ∀ (hag : (isAgg e).run P w = .ok true w), (part e (arr N fun q => F (o + q)) a).run P w = .ok (.agg (arr z fun q => F (o + a + q))) w := fun hag => by
   simp only [part, Sem.run_bind, hag, hs, Result.andThen_ok, Sem.run_pure, if_true, znk N _ a z h]
   exact congrArg (fun c => Result.ok (Value.agg c) w) (zca fun i _ => by rw [Nat.add_assoc])
  cases hu : P.underlying e with
  | none => rw [hu] at h2; cases h2
  | some d =>
   have hag : (isAgg e).run P w = .ok (match d with | .struct _ | .array _ _ => true | _ => false) w := by
    unfold isAgg
    rw [Sem.run_bind, run_underlying hu w]
    cases d <;> rfl
   unfold vAt
   rw [hu] at h2 ⊢
   cases d <;> first | (cases h2; done) | exact one hag | exact many hag
theorem zha {chk : TypeId → Bool} {sz : TypeId → Nat} : ∀ (l : List Field) (o n : Nat), fieldsB chk sz l o n = true → o ≤ n ∧ ∀ x ∈ l, x.name ≠ "_" ∧ chk x.type = true ∧ 0 < sz x.type ∧ o ≤ x.offset ∧ x.offset + sz x.type ≤ n ∧
 ∀ j, j < sz x.type → l.find? (fun y => decide (y.offset ≤ x.offset + j) && decide (x.offset + j < y.offset + sz y.type)) = some x
 | [], o, n, h => ⟨by simp [fieldsB] at h; omega, fun x hx => by cases hx⟩
 | y :: r, o, n, h => by
  simp only [fieldsB, Bool.and_eq_true, beq_iff_eq, bne_iff_ne, decide_eq_true_eq] at h
  obtain ⟨⟨⟨⟨h1, h2⟩, h3⟩, h4⟩, h5⟩ := h
  obtain ⟨h6, h7⟩ := zha r _ _ h5
  refine ⟨by omega, fun x hx => ?_⟩
  rcases List.mem_cons.1 hx with rfl | hx
  ·refine ⟨h2, h3, h4, by omega, by omega, fun j hj => ?_⟩
   rw [List.find?_cons_of_pos]
   simp only [Bool.and_eq_true, decide_eq_true_eq]; omega
  ·obtain ⟨a1, a2, a3, a4, a5, a6⟩ := h7 x hx
   refine ⟨a1, a2, a3, by omega, a5, fun j hj => ?_⟩
   rw [List.find?_cons_of_neg, a6 j hj]
   simp only [Bool.and_eq_true, decide_eq_true_eq]; omega
theorem zhx {chk : TypeId → Bool} (w : World) (D N : Nat) (o : Nat) (F G : Nat → Value) (hpart : ∀ e, chk e = true → ∃ f, flatB P f e (P.cellsOf e) = true) :
 ∀ (l : List Field) (a n : Nat), n ≤ N → fieldsB chk P.cellsOf l a n = true →
  (∀ x ∈ l, ∃ b, (Op.equalIn D x.type (vAt P x.type (P.cellsOf x.type) (o + x.offset) F) (vAt P x.type (P.cellsOf x.type) (o + x.offset) G)).run P w = .ok b w ∧ (b = true ↔ ∀ q, q < P.cellsOf x.type → F (o + x.offset + q) = G (o + x.offset + q))) →
  ∃ b, (Op.eqFields D (arr N fun q => F (o + q)) (arr N fun q => G (o + q)) l).run P w = .ok b w ∧ (b = true ↔ ∀ i, a ≤ i → i < n → F (o + i) = G (o + i))
 | [], a, n, _, h, _ => by
  refine ⟨true, by simp [Op.eqFields], ?_⟩
  simp [fieldsB] at h
  exact ⟨fun _ i h1 h2 => by omega, fun _ => rfl⟩
 | x :: r, a, n, hN, h, he => by
  simp only [fieldsB, Bool.and_eq_true, beq_iff_eq, bne_iff_ne, decide_eq_true_eq] at h
  obtain ⟨⟨⟨⟨h1, h2⟩, h3⟩, h4⟩, h5⟩ := h
  obtain ⟨f, hf⟩ := hpart _ h3
  have h6 := (zha r _ _ h5).1
  obtain ⟨b1, hb1, hq1⟩ := he x List.mem_cons_self
  obtain ⟨b2, hb2, hq2⟩ := zhx w D N o F G hpart r _ _ hN h5 (fun y hy => he y (List.mem_cons_of_mem _ hy))
  have hrun : (Op.eqFields D (arr N fun q => F (o + q)) (arr N fun q => G (o + q)) (x :: r)).run P w = .ok (b1 && b2) w := by
   rw [Op.eqFields]
   simp only [ne_eq, h2, not_false_eq_true, if_true, Sem.run_bind, zfn w hf N _ o x.offset (by omega) h4, Result.andThen_ok, hb1]
   cases b1 with
   | false => simp
   | true => simp [hb2]
  refine ⟨_, hrun, ?_⟩
  rw [Bool.and_eq_true, hq1, hq2]
  constructor
  ·rintro ⟨k1, k2⟩ i hi1 hi2
   by_cases hi : i < a + P.cellsOf x.type
   ·have := k1 (i - x.offset) (by omega)
    rwa [show o + x.offset + (i - x.offset) = o + i by omega] at this
   ·exact k2 i (by omega) hi2
  ·intro k
   refine ⟨fun q hq => ?_, fun i hi1 hi2 => k i (by omega) hi2⟩
   have := k (x.offset + q) (by omega) (by omega)
   rwa [← Nat.add_assoc] at this
theorem zox (w : World) : ∀ (f D : Nat) (t : TypeId) (n o : Nat) (F G : Nat → Value), flatB P f t n = true → f ≤ D → (∀ i l, i < n → leafAt P f t i = some l → kindsOk P l (F (o + i)) (G (o + i))) →
 ∃ b, (Op.equalIn D t (vAt P t n o F) (vAt P t n o G)).run P w = .ok b w ∧ (b = true ↔ ∀ i, i < n → F (o + i) = G (o + i)) := by
 intro f
 induction f with
 | zero => intro D t n o F G h _ _; cases h
 | succ f ih =>
  intro D t n o F G hf hD hk
  obtain ⟨D, rfl⟩ : ∃ D', D = D' + 1 := ⟨D - 1, by omega⟩
  unfold flatB at hf
  simp only [Bool.and_eq_true, decide_eq_true_eq] at hf
  obtain ⟨hsz, hf⟩ := hf
  cases hu : P.underlying t with
  | none => rw [hu] at hf; cases hf
  | some d =>
   rw [hu] at hf
   cases d with
   | int k =>
    have hn : n = 1 := by simpa using hf
    subst hn
    have h1 := hk 0 t (by omega) (by unfold leafAt; rw [hu]; rfl)
    unfold kindsOk at h1
    rw [hu] at h1
    obtain ⟨x, y, hx, hy⟩ := h1
    rw [Nat.add_zero] at hx hy
    unfold vAt
    simp only [hu, hx, hy]
    refine ⟨x == y, run_equalIn_int w D t k k x y hu, ?_⟩
    rw [beq_iff_eq]
    refine ⟨fun e i hi => ?_, fun h => ?_⟩
    ·obtain rfl : i = 0 := by omega
     rw [Nat.add_zero, hx, hy, e]
    ·have := h 0 (by omega)
     rw [Nat.add_zero, hx, hy] at this
     injection this
   | bool =>
    have hn : n = 1 := by simpa using hf
    subst hn
    have h1 := hk 0 t (by omega) (by unfold leafAt; rw [hu]; rfl)
    unfold kindsOk at h1
    rw [hu] at h1
    obtain ⟨x, y, hx, hy⟩ := h1
    rw [Nat.add_zero] at hx hy
    unfold vAt
    simp only [hu, hx, hy]
    refine ⟨x == y, run_equalIn_bool' w D t x y hu, ?_⟩
    rw [beq_iff_eq]
    refine ⟨fun e i hi => ?_, fun h => ?_⟩
    ·obtain rfl : i = 0 := by omega
     rw [Nat.add_zero, hx, hy, e]
    ·have := h 0 (by omega)
     rw [Nat.add_zero, hx, hy] at this
     injection this
   | array m e =>
    simp only [Bool.and_eq_true, beq_iff_eq, decide_eq_true_eq] at hf
    obtain ⟨⟨he, hmn⟩, hz⟩ := hf
    obtain ⟨z, hzd⟩ : ∃ z, z = P.cellsOf e := ⟨_, rfl⟩
    rw [← hzd] at he hmn hz
    have hes : (P.info? e).map (·.size) = some z := by
     cases f with
     | zero => cases he
     | succ f => unfold flatB at he; simp only [Bool.and_eq_true, decide_eq_true_eq] at he; exact he.1
    have hs := zcm hes
    have fit : ∀ i, i < m → i * z + z ≤ n := fun i hi => by
     have := Nat.mul_le_mul_right z (show i + 1 ≤ m from hi)
     rw [Nat.succ_mul] at this; omega
    have each : ∀ i, i < m → ∃ b, (Op.equalIn D e (vAt P e z (o + i * z) F) (vAt P e z (o + i * z) G)).run P w = .ok b w ∧ (b = true ↔ ∀ q, q < z → F (o + i * z + q) = G (o + i * z + q)) := fun i hi =>
     ih D e z (o + i * z) F G he (by omega) (fun q l hq hl => by
      have := hk (i * z + q) l (by have := fit i hi; omega) (by
       unfold leafAt
       rw [hu]
       simp only
       rw [← hzd, show (i * z + q) / z = i by rw [Nat.mul_comm, Nat.mul_add_div hz]; simp [Nat.div_eq_of_lt hq], if_pos hi, show (i * z + q) % z = q by rw [Nat.mul_comm, Nat.mul_add_mod]; exact Nat.mod_eq_of_lt hq]
       exact hl)
      rwa [← Nat.add_assoc] at this)
    have key : ∀ j a, j + a = m → (∀ i, i < a → ∀ q, q < z → F (o + i * z + q) = G (o + i * z + q)) → ∃ b, (forIn (List.range' a j) ((none, ()) : Option Bool × Unit) fun i __s => (do
     let __do_lift ← part e (arr n fun q => F (o + q)) (i * z)
     let __do_lift_1 ← part e (arr n fun q => G (o + q)) (i * z)
     let __do_lift ← Op.equalIn D e __do_lift __do_lift_1
     if __do_lift = false then pure (ForInStep.done (some false, ())) else pure (ForInStep.yield (none, ())) : Sem (ForInStep (Option Bool × Unit)))).run P w = .ok (if b = true then (none, ()) else (some false, ())) w ∧ (b = true ↔ ∀ i, i < m → ∀ q, q < z → F (o + i * z + q) = G (o + i * z + q)) := by
     intro j
     induction j with
     | zero =>
      intro a ha hlt
      exact ⟨true, by simp, ⟨fun _ i hi => hlt i (by omega), fun _ => rfl⟩⟩
     | succ j jh =>
      intro a ha hlt
      obtain ⟨b, hb, hq⟩ := each a (by omega)
      simp only [List.range'_succ, List.forIn_cons, Sem.run_bind, zfn w he n F o (a * z) (fit a (by omega)) hz, zfn w he n G o (a * z) (fit a (by omega)) hz, Result.andThen_ok, hb]
      cases b with
      | true =>
       simp only [Bool.true_eq_false, if_false, Sem.run_pure, Result.andThen_ok]
       exact jh (a + 1) (by omega) (fun i hi => by
        by_cases h : i = a
        ·subst h; exact hq.1 rfl
        ·exact hlt i (by omega))
      | false =>
       refine ⟨false, by simp, ⟨(fun h => by cases h), fun h => ?_⟩⟩
       exact hq.2 (h a (by omega))
    obtain ⟨b, hb, hq⟩ := key m 0 (by omega) (fun i hi => by omega)
    refine ⟨b, ?_, ?_⟩
    ·unfold vAt
     simp only [hu]
     rw [Op.equalIn]
     simp [run_underlying hu, hs]
     rw [hb]
     cases b <;> simp
    ·rw [hq]
     constructor
     ·intro h i hi
      have h1 : i / z < m := by rw [Nat.div_lt_iff_lt_mul hz]; omega
      have := h (i / z) h1 (i % z) (Nat.mod_lt _ hz)
      rwa [show o + i / z * z + i % z = o + i by rw [Nat.add_assoc, Nat.div_add_mod']] at this
     ·intro h i hi q hq
      have := h (i * z + q) (by have := fit i hi; omega)
      rwa [← Nat.add_assoc] at this
   | struct fs =>
    simp only [Bool.and_eq_true, Bool.not_eq_true'] at hf
    obtain ⟨hst, hfs⟩ := hf
    have hfo : P.fieldsOf t = fs := by unfold Program.fieldsOf; rw [hu]
    obtain ⟨b, hb, hq⟩ := zhx (P := P) w D n o F G (fun e he => ⟨f, he⟩) fs.toList 0 n lR hfs (fun x hx => by
     obtain ⟨_, a2, a3, _, a5, a6⟩ := (zha _ _ _ hfs).2 x hx
     refine ih D x.type (P.cellsOf x.type) (o + x.offset) F G a2 (by omega) (fun q l hq hl => ?_)
     have := hk (x.offset + q) l (by omega) (by
      unfold leafAt
      rw [hu]
      simp only
      rw [a6 q hq]
      simp only [Option.bind_some]
      rw [show x.offset + q - x.offset = q by omega]
      exact hl)
     rwa [← Nat.add_assoc] at this)
    refine ⟨b, ?_, ?_⟩
    ·unfold vAt
     simp only [hu]
     rw [run_equalIn_struct w D t _ _ (by rw [hfo]; exact hu) hst, hfo]
     exact hb
    ·rw [hq]
     exact ⟨fun h i hi => h i (Nat.zero_le _) hi, fun h i _ hi => h i hi⟩
   | _ => cases hf
theorem zk0 (w : World) {f : Nat} {ty : TypeId} {n : Nat} {F G : Nat → Value} {b : Bool} {d : TypeDesc} (hu : P.underlying ty = some d) (hd : (match d with | .struct _ | .array _ _ => true | _ => false) = true) (hf : flatB P f ty n = true) (hf2 : f ≤ 10000)
    (hk : ∀ i l, i < n → leafAt P f ty i = some l → kindsOk P l (F i) (G i)) (hb : b = true ↔ ∀ i, i < n → F i = G i) : (Op.equal ty (.agg (arr n F)) (.agg (arr n G))).run P w = .ok b w := by
 obtain ⟨b', h1, h2⟩ := zox (P := P) w f 10000 ty n 0 F G hf hf2 (fun i l hi hl => by rw [Nat.zero_add]; exact hk i l hi hl)
 have hbb : b' = b := by
  have h3 : b' = true ↔ b = true := by rw [h2, hb]; simp only [Nat.zero_add]
  cases b <;> cases b' <;> simp_all
 subst hbb
 have hv : ∀ F : Nat → Value, vAt P ty n 0 F = .agg (arr n F) := fun F => by
  unfold vAt
  rw [hu]
  cases d <;> first | (cases hd; done) | simp only [Nat.zero_add]
 rw [hv, hv] at h1
 exact h1
theorem zqn {o : Oper} {a : Act} {ty rt : TypeId} {xo yo : Operand} {w : World} (f n : Nat) (F G : Nat → Value) (b : Bool) {d : TypeDesc} (hop : o.op = .binOp .eql ty xo yo rt) (hx : a.eval xo = .agg (arr n F)) (hy : a.eval yo = .agg (arr n G)) (hu : P.underlying ty = some d) (hd : (match d with | .struct _ | .array _ _ => true | _ => false) = true) (hf : flatB P f ty n = true) (hf2 : f ≤ 10000) (hq : P.eqGuardType P.depth ty = false)
    (hk : ∀ i l, i < n → leafAt P f ty i = some l → kindsOk P l (F i) (G i)) (hb : b = true ↔ ∀ i, i < n → F i = G i) : (execOp a.eval o).run P w = .ok (.value (.bool b)) w := by
 unfold execOp
 rw [hop]
 simp only [hx, hy]
 simp [eqGuard, hq, binOp, zk0 w hu hd hf hf2 hk hb]
theorem zk1 {o : Oper} {a : Act} {ty rt : TypeId} {xo yo : Operand} {w : World} (f n : Nat) (F G : Nat → Value) (b : Bool) {d : TypeDesc} (hop : o.op = .binOp .neq ty xo yo rt) (hx : a.eval xo = .agg (arr n F)) (hy : a.eval yo = .agg (arr n G)) (hu : P.underlying ty = some d) (hd : (match d with | .struct _ | .array _ _ => true | _ => false) = true) (hf : flatB P f ty n = true) (hf2 : f ≤ 10000) (hq : P.eqGuardType P.depth ty = false)
    (hk : ∀ i l, i < n → leafAt P f ty i = some l → kindsOk P l (F i) (G i)) (hb : b = true ↔ ∀ i, i < n → F i = G i) : (execOp a.eval o).run P w = .ok (.value (.bool (!b))) w := by
 unfold execOp
 rw [hop]
 simp only [hx, hy]
 simp [eqGuard, hq, binOp, zk0 w hu hd hf hf2 hk hb]
end
structure TSt (v : TV) (n : Nat) (x : Nat → Nat) : Prop where
 n0 : v.lm 0 = n
 x0 : ∀ i, i < n * 32 → v.g 0 i = x i
 lev : ∀ d, d < v.D → LevOk (d + 1) n (v.lm (d + 1)) x (v.g (d + 1)) (fun a => a < n ∧ dirB v.dn v.dw a = true)
 nle : n ≤ v.lim
 lim : v.lim ≤ 1073741824
 dep : v.lim ≤ 2 ^ v.D
 D30 : v.D ≤ 30
 dw : ∀ k, k < v.dn → v.dw k < 18446744073709551616
 dn : v.dn * 64 < n + 64
 g8 : ∀ d i, v.g d i < 256
 tn : ∀ a, dirB v.dn v.dw a = true → a < n
def DirLe (v v' : TV) (k : Nat) : Prop := ∀ a, dirB v'.dn v'.dw a = true → dirB v.dn v.dw a = true ∨ a = k
def setN (x : Nat → Nat) (k : Nat) (y : Nat → Nat) : Nat → Nat := fun i => if k * 32 ≤ i ∧ i < k * 32 + 32 then y (i - k * 32) else x i
theorem zk2 {k n m : Nat} {x x' g : Nat → Nat} {P : Nat → Prop} (h : LevOk k n m x g P) (hx : ∀ i, i < n * 32 → x' i = x i) : LevOk k n m x' g P := by
 refine ⟨h.1, fun j hj hn => ?_⟩
 obtain ⟨h1, h2⟩ := h.2 j hj hn
 refine ⟨h1, fun q hq => (h2 q hq).trans (zhu k n n x x' j (fun a r _ hr => ?_) q hq)⟩
 unfold padN
 by_cases h3 : a * 32 + r < n * 32
 ·rw [if_pos h3, if_pos h3, hx _ h3]
 ·rw [if_neg h3, if_neg h3]
theorem TSt.same {v : TV} {n k : Nat} {x y : Nat → Nat} (h : TSt v n x) (hy : ∀ q, q < 32 → y q = v.g 0 (k * 32 + q)) : TSt v n (setN x k y) := by
 have hx : ∀ i, i < n * 32 → setN x k y i = x i := fun i hi => by
  unfold setN
  by_cases h1 : k * 32 ≤ i ∧ i < k * 32 + 32
  ·rw [if_pos h1, hy _ (by omega), h.x0 _ (by omega), show k * 32 + (i - k * 32) = i by omega]
  ·rw [if_neg h1]
 exact { h with x0 := fun i hi => (h.x0 i hi).trans (hx i hi).symm, lev := fun d hd => zk2 (h.lev d hd) hx }
theorem TSt.set {v v' : TV} {n k : Nat} {x y : Nat → Nat} (h : TSt v n x) (hk : k < n) (hD : v'.D = v.D) (hl : v'.lim = v.lim) (hm : v'.lm = v.lm) (hg0 : ∀ i, i < n * 32 → v'.g 0 i = setN x k y i) (hg : ∀ d, d ≠ 0 → v'.g d = v.g d) (h8 : ∀ d i, v'.g d i < 256)
    (hdw : ∀ k, k < v'.dn → v'.dw k < 18446744073709551616) (hdn : v'.dn = v.dn ∨ v'.dn = k / 64 + 1) (hdir : ∀ a, dirB v'.dn v'.dw a = (dirB v.dn v.dw a || a == k)) : TSt v' n (setN x k y) where
 n0 := by rw [hm]; exact h.n0
 x0 := hg0
 lev := fun d hd => by
  rw [hm, hg (d + 1) (by omega)]
  refine zuj k (h.lev d (by omega)) (fun j q hj hq => ?_) (fun a ha => ?_)
  ·unfold setN; rw [if_neg (by omega)]
  ·rcases ha with ⟨h1, h2⟩ | rfl
   ·exact ⟨h1, by rw [hdir, h2]; rfl⟩
   ·exact ⟨hk, by rw [hdir]; simp⟩
 nle := by rw [hl]; exact h.nle
 lim := by rw [hl]; exact h.lim
 dep := by rw [hl, hD]; exact h.dep
 D30 := by rw [hD]; exact h.D30
 dw := hdw
 dn := by have := h.dn; omega
 g8 := h8
 tn := fun a ha => by
  rw [hdir, Bool.or_eq_true, beq_iff_eq] at ha
  rcases ha with ha | rfl
  ·exact h.tn a ha
  ·exact hk
theorem DirLe.of {v v' : TV} {k : Nat} (h : ∀ a, dirB v'.dn v'.dw a = (dirB v.dn v.dw a || a == k)) : DirLe v v' k := fun a ha => by
 rw [h, Bool.or_eq_true, beq_iff_eq] at ha
 exact ha
theorem DirLe.refl (v : TV) (k : Nat) : DirLe v v k := fun _ h => .inl h
def appN (x : Nat → Nat) (n : Nat) (y : Nat → Nat) : Nat → Nat := catN (n * 32) x y
theorem TSt.app {v v' : TV} {n : Nat} {x y : Nat → Nat} (h : TSt v n x) (hn : n < v.lim) (hD : v'.D = v.D) (hl : v'.lim = v.lim) (hm0 : v'.lm 0 = n + 1) (hm : ∀ d, d ≠ 0 → v'.lm d = v.lm d) (hg0 : ∀ i, i < (n + 1) * 32 → v'.g 0 i = appN x n y i) (hg : ∀ d, d ≠ 0 → v'.g d = v.g d) (h8 : ∀ d i, v'.g d i < 256)
    (hdw : ∀ k, k < v'.dn → v'.dw k < 18446744073709551616) (hdn : v'.dn = v.dn ∨ v'.dn = n / 64 + 1) (hdir : ∀ a, dirB v'.dn v'.dw a = (dirB v.dn v.dw a || a == n)) : TSt v' (n + 1) (appN x n y) where
 n0 := hm0
 x0 := hg0
 lev := fun d hd => by
  rw [hm (d + 1) (by omega), hg (d + 1) (by omega)]
  refine zuk (h.lev d (by omega)) (fun j hj => ?_) (fun a ha => ?_)
  ·unfold appN catN; rw [if_pos hj]
  ·rcases ha with ⟨h1, h2⟩ | rfl
   ·exact ⟨by omega, by rw [hdir, h2]; rfl⟩
   ·exact ⟨by omega, by rw [hdir]; simp⟩
 nle := by rw [hl]; omega
 lim := by rw [hl]; exact h.lim
 dep := by rw [hl, hD]; exact h.dep
 D30 := by rw [hD]; exact h.D30
 dw := hdw
 dn := by have := h.dn; omega
 g8 := h8
 tn := fun a ha => by
  rw [hdir, Bool.or_eq_true, beq_iff_eq] at ha
  rcases ha with ha | rfl
  ·have := h.tn a ha; omega
  ·omega
namespace TreeSt
theorem zqo : ∀ q, q < 32 → leafAt Tryd.prog 3 24 q = some 5 := fun q hq => by
 have h : (List.range 32).all (fun q => leafAt Tryd.prog 3 24 q == some 5) = true := by kernel_rfl
 exact eq_of_beq (List.all_eq_true.1 h q (List.mem_range.2 hq))
theorem zjx (y z : Nat → Nat) : ∀ i l, i < 32 → leafAt Tryd.prog 3 24 i = some l → kindsOk Tryd.prog l (u8v y i) (u8v z i) := fun i l hi hl => by
 rw [zqo i hi] at hl
 injection hl with hl
 subst hl
 unfold kindsOk
 rw [show Tryd.prog.underlying 5 = some (.int .u8) from Ty5]
 exact ⟨_, _, rfl, rfl⟩
theorem zqp (y z : Nat → Nat) (b : Bool) (hb : b = true ↔ ∀ i, i < 32 → y i = z i) : b = true ↔ ∀ i, i < 32 → u8v y i = u8v z i := by
 rw [hb]
 refine ⟨fun h i hi => by simp only [u8v, h i hi], fun h i hi => ?_⟩
 have h1 := h i hi
 simp only [u8v] at h1
 injection h1 with _ h1
 omega
theorem zwg {o : Oper} {a : Act} {rt : TypeId} {xo yo : Operand} {w : World} {y z : Nat → Nat} (b : Bool) (hop : o.op = .binOp .neq 24 xo yo rt) (hx : a.eval xo = rootV y) (hy : a.eval yo = rootV z) (hb : b = true ↔ ∀ i, i < 32 → y i = z i) : (execOp a.eval o).run Tryd.prog w = .ok (.value (.bool (!b))) w :=
 zk1 3 32 (u8v y) (u8v z) b hop hx hy Ty24 rfl (by kernel_rfl) (by omega) (by kernel_rfl) (zjx y z) (zqp y z b hb)
theorem zse {ops : Array Oper} {B : Nat} {w0 : World} {o : Oper} {lk : Tmp → SF} {rt : TypeId} {xo yo : Operand} {y z : Nat → Nat} (b : Bool) (hg : o.guard = none) (hop : o.op = .binOp .neq 24 xo yo rt) (hx : OpK lk xo (rootV y)) (hy : OpK lk yo (rootV z)) (hb : b = true ↔ ∀ i, i < 32 → y i = z i) : opOb Tryd.prog ops B w0 o (sI (.bool (!b))) lk :=
 zbw _ hg fun a w _ hf => zwg b hop (hx.eval hf (by rw [hop]; simp [Op.operands])) (hy.eval hf (by rw [hop]; simp [Op.operands])) hb
theorem zk3 {P : Program} {o : Oper} {a : Act} {w : World} {K : Act → World → Prop} {Q : Exit → Act → World → Prop} (ty : TypeId) (x y : Operand) (ho : o.op = .store ty x y) {base z n c b : Nat} {e : TypeId} {f : Nat → Value} (h : OwnZ w base e z (some ⟨b, 0, none⟩) n c f)
    (off m : Nat) (g : Nat → Value) (hx : a.eval x = .pointer (some ⟨b, off, none⟩)) (hy : a.eval y = .agg (arr m g)) (hi : (P.info? ty).map (·.size) = some m) (hfit : off + m ≤ n * z) (h1 : ∀ i, i < m → (g i).oneCell' = true) (F : Nat → Value) (hF : ∀ j, j < n * z → (if off ≤ j ∧ j < off + m then g (j - off) else f j) = F j)
    (hK : ∀ w', OwnZ w' base e z (some ⟨b, 0, none⟩) n c F → w.grownBy w' (some b) → K (a.put o.dst undef) w') : o.wp P a w K Q := by
 obtain ⟨G, hr, hG, hb⟩ := h.row
 have hnc : n * z ≤ c * z := Nat.mul_le_mul_right _ h.cap
 have hS : HS w w [⟨b, e, c * z, G⟩] := (HS.nil w).take hr (by simp)
 refine zds ty x y ho hS 0 rfl off m g hx hy hi (by omega) h1 (fun j => if off ≤ j ∧ j < off + m then g (j - off) else G j) (fun _ _ => rfl) (fun w' hs => hK w' ?_ (hs.grown b (by simp)))
 have hr' : w'.rowIs b e (c * z) (fun j => if off ≤ j ∧ j < off + m then g (j - off) else G j) := hs.row 0 rfl
 exact OwnZ.of_rowC hr' hb h.cap h.capM (fun i hi => by rw [← hF i hi]; simp only [hG i hi])
end TreeSt
theorem zqq (g y : Nat → Nat) (k N : Nat) : ∀ j, j < N → (if k * 32 ≤ j ∧ j < k * 32 + 32 then u8v y (j - k * 32) else u8v g j) = u8v (setN g k y) j := fun j _ => by
 unfold setN
 simp only [u8v]
 split <;> rfl
open TreeFn TreeMark TreeGet TreeSt in
theorem zup (v : TV) (base T k n : Nat) (x y : Nat → Nat) (w : World) (h : TM w base T v) (hst : TSt v n x) (hk : k < n) (hy : ∀ q, y q < 256) :
 Calls Tryd.prog 85 #[tpV T, .int .i64 (k : Int), rootV y] w fun r w' => ∃ v', r = .returned (.int .i64 0) ∧ TM w' base T v' ∧ TStep w w' T v v' ∧ TSt v' n (setN x k y) ∧ DirLe v v' k ∧ v'.H = v.H := by
 have H0 := Hd h
 have HT0 := Hd hst
 have HN := Hd hst.n0
 have HS0 := Hd (HS.nil w)
 have hn30 : n ≤ 1073741824 := lT hst.nle hst.lim
 have HY := Hd hy
 obtain ⟨b0, hb0⟩ := zdv (h.lv 0 (Nat.zero_le _)) (by rw [hst.n0]; omega)
 have HB0 := Hd hb0
 obtain ⟨D, hD⟩ : ∃ D, v.D = D := ⟨_, rfl⟩
 have HD := Hd hD
 obtain ⟨b, hb⟩ : ∃ b : Bool, b = true ↔ ∀ i, i < 32 → v.g 0 (k * 32 + i) = y i := by
  by_cases he : ∀ i, i < 32 → v.g 0 (k * 32 + i) = y i
  ·exact ⟨true, by simp only [true_iff]; exact he⟩
  ·exact ⟨false, by simp only [Bool.false_eq_true, false_iff]; exact he⟩
 have HBd := Hd hb
 clear h hst hb0 hD hy hb
 go_enter Tryd.func85, Tryd.ntmps85
 go_upto_region 3 with (first
  | (refine zaz rfl 24 _ 5 rfl rfl HS0.out 32 (u8v y) rfl ?_; intro b5 w4 hb5 hc5 hs; have HR5 := Hd (hs.row 0 rfl); have HB4 := Hd (hs.out (by simp; omega)); have hl5 : b5 < w4.heap.size := hs.lt 0 rfl; have HM4 := Hd (H0.out.below HB4.out); clear hs)
  | (refine zab rfl 8 rfl (.bool false) ?_ ?_; (· exact za1 rfl rfl rfl rfl (fun w => ltI0 k w) _))
  | (go_at_call 80; refine (zd6 v base T _ HM4.out).mono ?_; rintro r w5 ⟨rfl, hw5⟩; subst hw5; rw [HN.out])
  | (refine zct rfl rfl rfl 13 rfl (.bool false) ?_ ?_; (· exact za1 rfl rfl rfl rfl (fun w => geI' k n hk w) _)))
 have HCK : Hid (∀ w', Below w5.heap.size w5 w' → ∀ q, q < 32 → w'.cell? ((⟨b0, k * 32, none⟩ : Addr).add q) = some (u8v (fun q => v.g 0 (k * 32 + q)) q)) := Hd (fun w' hb q hq => by
  have h1 := ((HM4.out.below hb).lv 0 (Nat.zero_le _)).rd
  rw [HB0.out, HN.out] at h1
  have h2 := h1.cells (i := k * 32 + q) (by omega)
  rw [zai] at h2
  rw [zg6]; exact h2)
 refine zb3 (B := w5.heap.size) (w0 := w5) [sI (.pointer (some ⟨T, 0, none⟩)), sI (.pointer (some ⟨T, 0, none⟩)), sI (.pointer (some ⟨T, 2, none⟩)), sI (.slice (some ⟨v.lb, 0, none⟩) (D + 1) (v.lc)), sI (.pointer (some ⟨v.lb, 0, none⟩)), sI (.slice (some ⟨b0, 0, none⟩) (n) (v.lk 0)), sI (.int .i64 ((k : Nat) : Int)), sI (.pointer (some ⟨b0, k * 32, none⟩)), sI (rootV (fun q => v.g 0 (k * 32 + q))), sI (rootV y), sI (.bool (!b))] (by kernel_rfl) (by kernel_rfl) rfl lR (Below.refl _ _) ⟨?_, ?_, ?_, ?_, ?_, ?_, ?_, ?_, ?_, ?_, ?_, trivial⟩ ?_
 ·exact (zaa _ rfl (.inl rfl) rfl)
 ·exact zar _ rfl rfl (oT rfl)
 ·exact zal rfl rfl (oT rfl) (fun w => by simp [go_sem])
 ·exact zad rfl rfl (oT rfl) (fun w' hb => PickDraw.za3 w' _ _ _ _ (by rw [← HD.out]; exact (HM4.out.below hb).c2) Ty134)
 ·exact zak rfl rfl (oT rfl) OpK.const (fun w => idx0 w _ _ _ (by omega))
 ·exact zad rfl rfl (oT rfl) (fun w' hb => PickDraw.za3 w' _ _ _ _ (by rw [← HB0.out, ← HN.out]; exact (HM4.out.below hb).level (k := 0) (Nat.zero_le _)) Ty32)
 ·exact (zaa _ rfl (.inl rfl) rfl)
 ·exact zak rfl rfl (oT rfl) (oT rfl) (fun w => idxR w b0 n _ k hk)
 ·exact zad rfl rfl (oT rfl) (fun w' hb => zbd w' ⟨b0, k * 32, none⟩ 32 24 _ (u8v fun q => v.g 0 (k * 32 + q)) (fun q hq => HCK.out w' hb q hq) Ty24 rfl s24)
 ·exact zad rfl rfl (oT rfl) (fun w' hb => zbd w' ⟨b5, 0, none⟩ 32 24 _ (u8v y) (fun q hq => by rw [zai]; exact (zaj HR5.out hb HR5.out.lt).cell hq) Ty24 rfl s24)
 ·exact zse b rfl rfl (oT rfl) (oT rfl) HBd.out
 ·intro w' hb
  simp only [fin, sI, forall_eq]
  simp only [pcX]
  have HM6 := Hd (HM4.out.below hb)
  have HR6 := Hd (zaj HR5.out hb hl5)
  have HB6 := Hd (HB4.out.trans (hb.mono HB4.out.size))
  obtain ⟨w6, hw6⟩ : ∃ w6 : World, w6 = w' := ⟨_, rfl⟩
  subst hw6
  clear hb HCK
  cases b with
  | true =>
   go_wp2_with fail
   go_ret
   exact ⟨rfl, v, HM6.out, TStep.refl HB6.out, HT0.out.same (fun q hq => ((HBd.out.mp (by trivial)) q hq).symm), DirLe.refl v k, rfl⟩
  | false =>
   go_upto_region 4 with fail
   refine zao (l := [_, _, _, _, _, _, _, _, _]) (tl := []) (B := w6.heap.size) (w0 := w6) [sI (.pointer (some ⟨T, 0, none⟩)), sI (.pointer (some ⟨T, 0, none⟩)), sI (.pointer (some ⟨T, 2, none⟩)), sI (.slice (some ⟨v.lb, 0, none⟩) (D + 1) (v.lc)), sI (.pointer (some ⟨v.lb, 0, none⟩)), sI (.slice (some ⟨b0, 0, none⟩) (n) (v.lk 0)), sI (.int .i64 ((k : Nat) : Int)), sI (rootV y), sI (.pointer (some ⟨b0, k * 32, none⟩))] (by kernel_rfl) (by kernel_rfl) rfl lR (Below.refl _ _) ⟨?_, ?_, ?_, ?_, ?_, ?_, ?_, ?_, ?_, trivial⟩ ?_
   ·exact (zaa _ rfl (.inl rfl) rfl)
   ·exact zar _ rfl rfl (oT rfl)
   ·exact zal rfl rfl (oT rfl) (fun w => by simp [go_sem])
   ·exact zad rfl rfl (oT rfl) (fun w' hb => PickDraw.za3 w' _ _ _ _ (by rw [← HD.out]; exact (HM6.out.below hb).c2) Ty134)
   ·exact zak rfl rfl (oT rfl) OpK.const (fun w => idx0 w _ _ _ (by omega))
   ·exact zad rfl rfl (oT rfl) (fun w' hb => PickDraw.za3 w' _ _ _ _ (by rw [← HB0.out, ← HN.out]; exact (HM6.out.below hb).level (k := 0) (Nat.zero_le _)) Ty32)
   ·exact (zaa _ rfl (.inl rfl) rfl)
   ·exact zad rfl rfl (oT rfl) (fun w' hb => zbd w' ⟨b5, 0, none⟩ 32 24 _ (u8v y) (fun q hq => by rw [zai]; exact (zaj HR6.out hb HR6.out.lt).cell hq) Ty24 rfl s24)
   ·exact zak rfl rfl (oT rfl) (oT rfl) (fun w => idxR w b0 n _ k hk)
   ·intro w' hb
    simp only [fin, sI, forall_eq]
    simp only [pcX]
    have HM7 := Hd (HM6.out.below hb)
    have HB7 := Hd (HB6.out.trans (hb.mono HB6.out.size))
    have hov : OwnZ w' base 24 32 (some ⟨b0, 0, none⟩) n (v.lk 0) (u8v (v.g 0)) := by
     have h1 := HM7.out.lv 0 (Nat.zero_le _)
     rw [HB0.out, HN.out] at h1
     exact h1
    clear hb HM4 HM6 HR5 HR6 HB4
    refine zk3 24 (.tmp 34) (.tmp 33) rfl hov (k * 32) 32 (u8v y) rfl rfl (by kernel_rfl) (by omega) (fun _ _ => rfl) (u8v (setN (v.g 0) k y)) (zqq (v.g 0) y k _) ?_
    intro w8 ho hg
    have HM8 := Hd (HM7.out.setG (k := 0) (Nat.zero_le _) (g' := setN (v.g 0) k y) (by rw [HB0.out]; exact hg) (by rw [HB0.out, HN.out]; exact ho))
    have HS8 := Hd ((TStep.refl (T := T) (v := v) HB7.out).trans (TStep.ofG (v := v) (k := 0) (Nat.zero_le _) (g' := fun j => if j = 0 then setN (v.g 0) k y else v.g j) (by rw [HB0.out]; exact hg)))
    clear hov ho hg HM7 HB7
    obtain ⟨v1, hv1⟩ : ∃ v1, v1 = { v with g := fun j => if j = 0 then setN (v.g 0) k y else v.g j } := ⟨_, rfl⟩
    rw [← hv1] at HM8 HS8
    have HV1 := Hd hv1
    have HDw := Hd (show ∀ q, q < v1.dn → v1.dw q < 18446744073709551616 by rw [hv1]; exact HT0.out.dw)
    clear hv1
    simp only [seqWp, Act.put]
    go_wp2_with (go_at_call 98; refine (zkz v1 base T k (by omega) _ HM8.out HDw.out (by omega)).mono ?_; rintro r w9 ⟨A', n', c', dw', rfl, hm, hst, hdw, hn', hdir⟩; have HM9 := Hd hm; have HS9 := Hd hst; have HDn := Hd (And.intro hdw (And.intro hn' hdir)); clear hm hst hdw hn' hdir)
    go_ret
    have hv1 := HV1.out
    have hm := HM9.out
    have hs := HS8.out.trans HS9.out
    obtain ⟨hdw, hn', hdir⟩ := HDn.out
    clear HM8 HM9 HS8 HS9 HDw HDn HV1
    subst hv1
    refine ⟨_, rfl, hm, hs, HT0.out.set hk rfl rfl rfl (fun i hi => ?_) (fun d hd => ?_) (fun d i => ?_) hdw hn' hdir, DirLe.of hdir, rfl⟩
    ·show (if (0 : Nat) = 0 then setN (v.g 0) k y else v.g 0) i = _
     rw [if_pos rfl]
     unfold setN
     split
     ·rfl
     ·exact HT0.out.x0 i hi
    ·show (if d = 0 then setN (v.g 0) k y else v.g d) = _
     rw [if_neg hd]
    ·show (if d = 0 then setN (v.g 0) k y else v.g d) i < 256
     split
     ·unfold setN; split
      ·exact HY.out _
      ·exact HT0.out.g8 _ _
     ·exact HT0.out.g8 _ _
section
variable {P : Program} {ops : Array Oper} {Q : Exit → Act → World → Prop} {md : Region.Mode}
theorem zcq {i j k fuel : Nat} {oi oj ok : Oper} {listed : Array Bool} {a : Act} {w : World} (hi : ops.toList[i]? = some oi) (hj : ops.toList[j]? = some oj) (hk : ops.toList[k]? = some ok) (hr : Region.ready md ops listed = [i, j, k]) (gi : oi.guard = none) (gj : oj.guard = none) (gk : ok.guard = none)
    (ki : ∀ K : Act → World → Prop, (∀ a w, wpAny P md ops Q fuel (listed.setIfInBounds i true) a w → K a w) → oi.wp P a w K Q)
    (kj : ∀ K : Act → World → Prop, (∀ a w, wpAny P md ops Q fuel (listed.setIfInBounds j true) a w → K a w) → oj.wp P a w K Q)
    (kk : ∀ K : Act → World → Prop, (∀ a w, wpAny P md ops Q fuel (listed.setIfInBounds k true) a w → K a w) → ok.wp P a w K Q) : wpAny P md ops Q (fuel + 1) listed a w :=
 wpAny_ready (rs := [i, j, k]) hr (by simp) (AllReady.cons (by rw [← Array.getElem?_toList]; exact hi) (fun K hK => by rw [if_pos (by simp [Region.wanted, gi])]; exact ki K hK) (AllReady.cons (by rw [← Array.getElem?_toList]; exact hj) (fun K hK => by rw [if_pos (by simp [Region.wanted, gj])]; exact kj K hK) (AllReady.cons (by rw [← Array.getElem?_toList]; exact hk) (fun K hK => by rw [if_pos (by simp [Region.wanted, gk])]; exact kk K hK) (AllReady.nil))))
theorem zdd {o : Oper} {a : Act} {w : World} {K : Act → World → Prop} (v : Value) (h : (execOp a.eval o).run P w = .ok (.value v) w) (hK : K (a.put o.dst v) w) : o.wp P a w K Q := by
 unfold Oper.wp
 rw [h]
 exact hK
theorem zmh {o : Oper} {a : Act} {w : World} {ty : TypeId} {x : Operand} {ad : Addr} (n : Nat) (f : Nat → Value) {d : TypeDesc} (ho : o.op = .load ty x) (hx : a.eval x = .pointer (some ad)) (h : ∀ i, i < n → w.cell? (ad.add i) = some (f i)) (hu : P.underlying ty = some d) (hd : (match d with | .struct _ | .array _ _ => true | _ => false) = true) (hi : (P.info? ty).map (·.size) = some n) : (execOp a.eval o).run P w = .ok (.value (.agg (arr n f))) w := by
 unfold execOp
 rw [ho]
 simp only [hx]
 simp [zbd w ad n ty d f h hu hd hi]
end
end Go.Proofs.YtomilckcgmhfcaaDoor
