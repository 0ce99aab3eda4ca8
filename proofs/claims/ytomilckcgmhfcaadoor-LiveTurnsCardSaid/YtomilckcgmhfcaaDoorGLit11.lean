/- Lemmas that the proof stands on. -/
import Derived.Test.YtomilckcgmhfcaaDoorGLit10
namespace Go.Proofs.YtomilckcgmhfcaaDoor
set_option maxRecDepth 40000
set_option maxHeartbeats 64000000
open Go.RowKit
structure StOwn (w : World) (base : Nat) (s : StV) : Prop where
 H : OwnZ w base 24 32 s.aH s.nH s.cH s.His
 E : OwnZ w base 34 65 s.aE s.nE s.cE s.Vot
 V : OwnZ w base 66 86 s.aV s.nV s.cV s.V
 B : OwnZ w base 22 1 s.aB s.nB s.cB s.Bal
 P : OwnZ w base 5 1 s.aP s.nP s.cP s.Prv
 C : OwnZ w base 5 1 s.aC s.nC s.cC s.Cur
 S : OwnZ w base 22 1 s.aS s.nS s.cS s.Sco
theorem StOwn.all {w w' : World} {base : Nat} {s : StV} (h : StOwn w base s) (hb : Below w.heap.size w w') : StOwn w' base s := ⟨h.H.all hb, h.E.all hb, h.V.all hb, h.B.all hb, h.P.all hb, h.C.all hb, h.S.all hb⟩
theorem StOwn.mono {w : World} {base base' : Nat} {s : StV} (h : StOwn w base s) (hb : base' ≤ base) : StOwn w base' s := ⟨h.H.mono hb, h.E.mono hb, h.V.mono hb, h.B.mono hb, h.P.mono hb, h.C.mono hb, h.S.mono hb⟩
theorem zan {P : Program} {w : World} {o : Oper} {a : Act} {ty e : TypeId} {x : Operand} {ad : Addr} {u v : Value} (ho : o.op = .load ty x) (hx : a.eval x = .pointer (some ad)) (hu : P.underlying ty = some (.slice e)) (h : w.cell? ad = some u) (hv : u = v) : (execOp a.eval o).run P w = .ok (.value v) w := by
 subst hv
 unfold execOp
 rw [ho]
 simp only [hx]
 simp [PickDraw.za3 w ad ty e u h hu]
theorem zl8 {s : StV} {w : World} {B : Nat} (h : StOk w B s) : ∀ i, i < 1957 → (s.F i).oneCell' = true := fun i hi => by
 have hall : (List.range 1957).all (fun q => match leafAt Tryd.prog 8 49 q with | some l => l == 22 || l == 5 || l == 4 || (q == 653 || q == 719 || q == 721 || q == 722 || q == 987 || q == 988 || q == 1092) | none => false) = true := by kernel_rfl
 have h1 := List.all_eq_true.1 hall i (List.mem_range.2 hi)
 cases hl : leafAt Tryd.prog 8 49 i with
 | none => rw [hl] at h1; cases h1
 | some l =>
  rw [hl] at h1
  simp only [Bool.or_eq_true, beq_iff_eq] at h1
  rcases h1 with ((rfl | rfl) | rfl) | ((((((rfl | rfl) | rfl) | rfl) | rfl) | rfl) | rfl)
  ·rw [(h.sc.u64 i hl).1]; rfl
  ·rw [(h.sc.u8 i hl).1]; rfl
  ·rw [h.sc.bool i hl]; rfl
  ·rw [h.f7]; rfl
  ·rw [h.f9]; rfl
  ·rw [h.f11]; rfl
  ·rw [h.f12]; rfl
  ·rw [h.f15]; rfl
  ·rw [h.f16]; rfl
  ·rw [h.f21]; rfl
namespace StCopy
theorem bs0R (w : World) : (Instr.buildSlice 32 0 #[]).run Tryd.prog w = .ok (.slice (some ⟨w.heap.size, 0, none⟩) 0 0) (w.alloc (.cells #[] 24)) := by simp [go_sem]
theorem bs0E (w : World) : (Instr.buildSlice 35 0 #[]).run Tryd.prog w = .ok (.slice (some ⟨w.heap.size, 0, none⟩) 0 0) (w.alloc (.cells #[] 34)) := by simp [go_sem]
theorem bs0V (w : World) : (Instr.buildSlice 36 0 #[]).run Tryd.prog w = .ok (.slice (some ⟨w.heap.size, 0, none⟩) 0 0) (w.alloc (.cells #[] 66)) := by simp [go_sem]
theorem bs064 (w : World) : (Instr.buildSlice 37 0 #[]).run Tryd.prog w = .ok (.slice (some ⟨w.heap.size, 0, none⟩) 0 0) (w.alloc (.cells #[] 22)) := by simp [go_sem]
theorem bs08 (w : World) : (Instr.buildSlice 39 0 #[]).run Tryd.prog w = .ok (.slice (some ⟨w.heap.size, 0, none⟩) 0 0) (w.alloc (.cells #[] 5)) := by simp [go_sem]
theorem stSlR (A : Option Addr) (n c : Nat) (w : World) (ad : Addr) (u : Value) (h : w.cell? ad = some u) (hf : w.frozen? ad = false) : (Instr.storeAt 32 (.pointer (some ad)) (.slice A n c)).run Tryd.prog w = .ok () (w.setCell ad (.slice A n c)) := by
 simp [go_sem, h, hf]
theorem stSlE (A : Option Addr) (n c : Nat) (w : World) (ad : Addr) (u : Value) (h : w.cell? ad = some u) (hf : w.frozen? ad = false) : (Instr.storeAt 35 (.pointer (some ad)) (.slice A n c)).run Tryd.prog w = .ok () (w.setCell ad (.slice A n c)) := by
 simp [go_sem, h, hf]
theorem stSlV (A : Option Addr) (n c : Nat) (w : World) (ad : Addr) (u : Value) (h : w.cell? ad = some u) (hf : w.frozen? ad = false) : (Instr.storeAt 36 (.pointer (some ad)) (.slice A n c)).run Tryd.prog w = .ok () (w.setCell ad (.slice A n c)) := by
 simp [go_sem, h, hf]
theorem stSl64 (A : Option Addr) (n c : Nat) (w : World) (ad : Addr) (u : Value) (h : w.cell? ad = some u) (hf : w.frozen? ad = false) : (Instr.storeAt 37 (.pointer (some ad)) (.slice A n c)).run Tryd.prog w = .ok () (w.setCell ad (.slice A n c)) := by
 simp [go_sem, h, hf]
theorem stSl8 (A : Option Addr) (n c : Nat) (w : World) (ad : Addr) (u : Value) (h : w.cell? ad = some u) (hf : w.frozen? ad = false) : (Instr.storeAt 39 (.pointer (some ad)) (.slice A n c)).run Tryd.prog w = .ok () (w.setCell ad (.slice A n c)) := by
 simp [go_sem, h, hf]
noncomputable def zV : Value := ((Tryd.prog.info? 66).bind (·.zero)).getD undef
noncomputable def zE : Value := ((Tryd.prog.info? 34).bind (·.zero)).getD undef
theorem zt7 : (Tryd.prog.info? 66).map (fun i => (i.zero, i.size, i.bytes)) = some (some zV, 86, 128) := by kernel_rfl
theorem zt8 : (Tryd.prog.info? 34).map (fun i => (i.zero, i.size, i.bytes)) = some (some zE, 65, 72) := by kernel_rfl
theorem zt9 : zV.cells.size = 86 := by kernel_rfl
theorem zua : zE.cells.size = 65 := by kernel_rfl
theorem zei {T : TypeId} {n z : Nat} {G : Nat → Value} (h : ∀ i, i < n → Sc (fun q => G (i * z + q)) T) (hall : (List.range z).all (fun q => match leafAt Tryd.prog 8 T q with | some l => l == 22 || l == 5 || l == 4 | none => false) = true) : ∀ i, i < n * z → (G i).oneCell' = true := fun i hi => by
 have hz : 0 < z := by
  rcases Nat.eq_zero_or_pos z with h0 | h0
  ·subst h0; omega
  ·exact h0
 have h1 : i / z < n := Nat.div_lt_of_lt_mul (by rwa [Nat.mul_comm])
 obtain ⟨v, hv, h2⟩ := Sc.one (h _ h1) hall (i % z) (Nat.mod_lt _ hz)
 have h3 := zaq z (fun q => G (i / z * z + q)) (i % z) (Nat.mod_lt _ hz)
 rw [h3] at hv
 injection hv with hv
 have e : i / z * z + i % z = i := by rw [Nat.mul_comm]; exact Nat.div_add_mod i z
 rw [← hv, e] at h2
 exact h2
end StCopy
namespace MerklePack
theorem lay (n j m N : Nat) (x : Nat → Nat) (hm : m = min (n - 32 * j) 32) (hj : 32 * j ≤ n) : ∀ i, i < N * 32 → (if j * 32 ≤ i ∧ i < j * 32 + m then u8v (fun q => x (32 * j + q)) (i - j * 32) else u8v (fun i => if i < j * 32 then padN n x i else 0) i) = u8v (fun i => if i < (j + 1) * 32 then padN n x i else 0) i := fun i _ => by
 unfold padN
 by_cases h : j * 32 ≤ i ∧ i < j * 32 + m
 ·rw [if_pos h]; simp only [u8v]; rw [if_pos (by omega), if_pos (by omega), show 32 * j + (i - j * 32) = i by omega]
 ·rw [if_neg h]; simp only [u8v]
  by_cases h1 : i < j * 32
  ·rw [if_pos h1, if_pos (show i < (j + 1) * 32 by omega)]
  ·rw [if_neg h1]
   by_cases h2 : i < (j + 1) * 32
   ·rw [if_pos h2, if_neg (by omega)]
   ·rw [if_neg h2]
end MerklePack
open MerklePack in
theorem zgc (n c : Nat) (A : Option Addr) (x : Nat → Nat) (w : World) (hb : Rd w w.heap.size A n (u8v x)) (hnc : n ≤ c) (hn : n ≤ 140737488355000) :
 Calls Tryd.prog 62 #[.slice A n c] w fun e w' => ∃ A' c', e = .returned (.slice A' (nch n) c') ∧ OwnZ w' w.heap.size 24 32 A' (nch n) c' (u8v (padN n x)) ∧ Below w.heap.size w w' := by
 have HB := Hd hb
 have HS0 := Hd (HS.nil w)
 obtain ⟨N, hN⟩ : ∃ N, N = nch n := ⟨_, rfl⟩
 have hN1 : N * 32 < n + 32 := by rw [hN]; unfold nch; omega
 have hN2 : n ≤ N * 32 := by rw [hN]; unfold nch; omega
 have HNe := Hd hN.symm
 have HD := Hd (show ((n : Int) + 31) / 32 = (N : Int) by omega)
 rw [← hN]
 clear hb hN
 go_enter Tryd.func62, Tryd.ntmps62
 go_wp2_with (first
  | (refine zd5 rfl 32 (e := 24) (z := .agg (Array.replicate 32 (.int .u8 0))) (k := 32) (bytes := 32) Ty32 (by kernel_rfl) (.tmp 8) (.tmp 8) rfl N (by simp [Act.eval, HD.out]) (by simp [Act.eval, HD.out]) (u8v fun i => if i < 0 * 32 then padN n x i else 0) (fun i hi => (zii 32 _ (by omega) i hi).trans (congrArg some (by simp [u8v]))) (by omega) (by omega) HS0.out ?_; intro b w1 hb1 hc1 hs; have HS1 := Hd hs; clear hs))
 go_loopw [12] (fun i wq => ∃ j : Nat, i = .int .i64 (j : Int) ∧ j ≤ N ∧ HS w wq [⟨b, 24, N * 32, u8v fun i => if i < j * 32 then padN n x i else 0⟩]) (fun i _ => N - (intOf i).toNat)
 case atStart => exact ⟨0, rfl, by omega, HS1.out⟩
 case round =>
  clear HS1
  obtain ⟨j, rfl, hj, hs⟩ := hrel
  have HSq := Hd hs
  clear hs
  by_cases hjn : j < N
  ·obtain ⟨A2, hct⟩ := zl0 (P := Tryd.prog) Ty39 (by kernel_rfl) A n c (32 * j) (by omega) hnc
   have HCt := Hd hct
   obtain ⟨m, hm⟩ : ∃ m, m = min (n - 32 * j) 32 := ⟨_, rfl⟩
   clear hct
   go_wp2_with fail
   refine zao (l := [_, _, _, _, _, _, _, _]) (tl := []) (B := wr.heap.size) (w0 := wr) [sI (.slice (some ⟨b, 0, none⟩) (N) (N)), sI (.int .i64 ((j : Nat) : Int)), sI (.pointer (some ⟨b, j * 32, none⟩)), sI (.slice (some ⟨b, j * 32, none⟩) (32) (32)), sI (.slice (A) (n) (c)), sI (.int .i64 ((j : Nat) : Int)), sI (.int .i64 ((32 * j : Nat) : Int)), sI (.slice (A2) (n - 32 * j) (c - 32 * j))] (by kernel_rfl) (by kernel_rfl) rfl lR (Below.refl _ _) ⟨?_, ?_, ?_, ?_, ?_, ?_, ?_, ?_, trivial⟩ ?_
   ·exact (zaa _ rfl (.inl rfl) rfl)
   ·exact (zaa _ rfl (.inl rfl) rfl)
   ·exact zak rfl rfl (oT rfl) (oT rfl) (fun w => (zaw (z := 32) w Ty32 (by kernel_rfl) ⟨b, 0, none⟩ hjn).trans (by rw [zai]))
   ·exact zbe rfl rfl (oT rfl) (OpKo.no) (OpKo.no) (fun w => zbp Ty24 1 (by kernel_rfl) none none (0) (32) (.inl ⟨rfl, rfl⟩) (.inl ⟨rfl, rfl⟩) (by omega) (by omega) (by omega) (by omega) (by omega) (by omega))
   ·exact (zaa _ rfl (.inl rfl) rfl)
   ·exact (zaa _ rfl (.inl rfl) rfl)
   ·exact zbn 32 j (by omega) rfl rfl OpK.const (oT rfl)
   ·exact zbe rfl rfl (oT rfl) (OpKo.tmp rfl) OpKo.no (fun w => HCt.out.1 w)
   ·intro w' hb
    simp only [fin, sI, forall_eq]
    simp only [pcX]
    have hs := HSq.out.below hb
    refine ze2 rfl Ty39 (by kernel_rfl) hs 0 rfl (j * 32) 32 32 (HCt.out.2.rd (HB.out.below (hs.out (by simp; omega)))) (fun _ _ => rfl) m hm (by omega) rfl rfl _ (lay n j m N x hm (by omega)) ?_
    clear hs hb
    intro wy hs
    have HY := Hd hs
    clear hs
    simp only [seqWp, Act.put, List.setIfInBounds_toArray, List.set_cons_succ, List.set_cons_zero]
    go_wp2_with fail
    go_roundw
    case rel => exact ⟨j + 1, by go_num, by omega, HY.out⟩
    case measure => simp [intOf]; omega
  ·obtain rfl : j = N := by omega
   go_wp2_with fail
   go_ret
   exact ⟨_, _, rfl, (OwnZ.of_row (HSq.out.row 0 rfl) hb1 (by unfold maxLen; omega)).congr (fun i hi => by simp only [u8v]; rw [if_pos hi]), HSq.out.out (by simp; omega)⟩
theorem OwnZ.hs {w0 w : World} {rows : List RowSpec} {base z n c : Nat} {e : TypeId} {A : Option Addr} {f : Nat → Value} (h : OwnZ w0 base e z A n c f) (hs : HS w0 w rows) (hne : ∀ ad, A = some ad → ∀ r ∈ rows, r.b ≠ ad.block) : OwnZ w base e z A n c f := by
 obtain ⟨h1, h2⟩ := h
 refine ⟨h1, ?_⟩
 rcases h2 with h2 | ⟨g, cap, cur, hv, hg, hh, r⟩
 ·exact .inl h2
 ·refine .inr ⟨g, cap, cur, hv, hg, ?_, r⟩
  have hA : A = some ⟨g, 0, none⟩ := by injection hv
  rw [hs.block g (Array.getElem?_eq_some_iff.1 hh).1 (fun r hr => hne _ hA r hr)]
  exact hh
def hashF (A : Option Addr) (n c : Nat) : Nat → Value := fun i => if i = 0 then .slice A n c else .int .i64 0
def HashIs (w : World) (base g n : Nat) (x : Nat → Nat) : Prop := ∃ A c, w.rowIs g 90 2 (hashF A n c) ∧ OwnZ w base 24 32 A n c (u8v x) ∧ (∀ ad, A = some ad → ad.block ≠ g)
theorem zbr {P : Program} {o : Oper} {a : Act} {w : World} {K : Act → World → Prop} {Q : Exit → Act → World → Prop} (v : Value) (h : (execOp a.eval o).run P w = .ok (.value v) w) (hK : K (a.put o.dst v) w) : o.wp P a w K Q := by
 unfold Oper.wp
 rw [h]
 exact hK
theorem zjs {n : Nat} {x r : Nat → Nat} : ∀ i, i < (n + 1) * 32 → catF (n * 32) (u8v x) (u8v r) i = u8v (catN (n * 32) x r) i := fun i _ => by
 simp only [catF, u8v, catN]; split <;> rfl
theorem zdt (a : Addr) (v : Value) (w : World) (h : w.cell? a = some v) : (Instr.loadAt 32 (.pointer (some a))).run Tryd.prog w = .ok v w := by
 simp [go_sem, h]
theorem zcr {o : Oper} {a : Act} {x : Operand} {ad : Addr} {v : Value} {w : World} (ho : o.op = .load 32 x) (hx : a.eval x = .pointer (some ad)) (h : (Instr.loadAt 32 (.pointer (some ad))).run Tryd.prog w = .ok v w) : (execOp a.eval o).run Tryd.prog w = .ok (.value v) w := by
 unfold execOp
 rw [ho]
 simp only [hx]
 simp [h]
theorem zc1 {o : Oper} {a : Act} {x : Operand} {b : Nat} {r : Nat → Nat} (ho : o.op = .load 24 x) (hx : a.eval x = .pointer (some ⟨b, 0, none⟩)) (w : World) (h : w.rowIs b 24 32 (u8v r)) : (execOp a.eval o).run Tryd.prog w = .ok (.value (rootV r)) w := by
 have h2 := zbd (P := Tryd.prog) w ⟨b, 0, none⟩ 32 24 _ (u8v r) (fun i hi => by rw [zai]; exact h.cell hi) Ty24 rfl s24
 unfold execOp
 rw [ho]
 simp only [hx]
 simp [h2]
theorem zay {P : Program} {ops : Array Oper} {Q : Exit → Act → World → Prop} {md : Region.Mode} {i j fuel : Nat} {o o' : Oper} {listed : Array Bool} {a : Act} {w : World} (hi : ops.toList[i]? = some o) (hj : ops.toList[j]? = some o') (hr : Region.ready md ops listed = [i, j]) (hg : o.guard = none) (hg' : o'.guard = none)
    (h : ∀ K : Act → World → Prop, (∀ a w, wpAny P md ops Q fuel (listed.setIfInBounds i true) a w → K a w) → o.wp P a w K Q)
    (h' : ∀ K : Act → World → Prop, (∀ a w, wpAny P md ops Q fuel (listed.setIfInBounds j true) a w → K a w) → o'.wp P a w K Q) : wpAny P md ops Q (fuel + 1) listed a w :=
 wpAny_ready (rs := [i, j]) hr (by simp) (AllReady.cons (by rw [← Array.getElem?_toList]; exact hi) (fun K hK => by rw [if_pos (by simp [Region.wanted, hg])]; exact h K hK) (AllReady.cons (by rw [← Array.getElem?_toList]; exact hj) (fun K hK => by rw [if_pos (by simp [Region.wanted, hg'])]; exact h' K hK) AllReady.nil))
theorem zjt (a : Addr) (A : Option Addr) (n c : Nat) (v : Value) (w : World) (h : w.cell? a = some v) (hf : w.frozen? a = false) : (Instr.storeAt 32 (.pointer (some a)) (.slice A n c)).run Tryd.prog w = .ok () (w.setCell a (.slice A n c)) := by
 simp [go_sem, h, hf]
theorem zdj (B base g n : Nat) (x r : Nat → Nat) (w : World) (hH : HashIs w base g n x) (hBb : B ≤ base) (hBg : B ≤ g) (hbw : base ≤ w.heap.size) (hn : n ≤ 1099511627776) :
 Calls Tryd.prog 53 #[.pointer (some ⟨g, 0, none⟩), rootV r, .int .i64 0] w fun e w' => e = .returned (.tuple #[]) ∧ HashIs w' base g (n + 1) (catN (n * 32) x r) ∧ Below B w w' := by
 obtain ⟨A, c, hr, ho, hne⟩ := hH
 have HO := Hd ho
 have HNe := Hd hne
 have hgl := hr.lt
 have hBw : B ≤ w.heap.size := lT hBb hbw
 have HS0 := Hd ((HS.nil w).take hr (fun r hr => by cases hr))
 clear hr ho hne
 go_enter Tryd.func53, Tryd.ntmps53
 go_wp2_with (first
  | (refine zaz rfl 24 _ 4 rfl rfl HS0.out 32 (u8v r) rfl ?_; intro b4 w4 hb4 hc4 hs4; have c1 : w4.cell? ⟨g, 1, none⟩ = some (.int .i64 0) := hs4.cell 1 1 rfl (by show 1 < 2; omega); have f1 := hs4.frozen 1 1 rfl; have HS4 := Hd hs4; clear hs4))
 have hs := (HS4.out.set 1 1 rfl (.int .i64 0)).congr 1 rfl (g := hashF A n c) (fun i hi => by
  by_cases e : i = 1
  ·subst e; rw [if_pos rfl]; rfl
  ·rw [if_neg e])
 refine HS.go hs (fun wa hs => ?_)
 have hA : HS w wa [⟨b4, 24, 32, u8v r⟩, ⟨g, 90, 2, hashF A n c⟩] := hs
 have HA := Hd hA
 have hsz := hA.size
 have HOa := Hd (HO.out.hs hA (fun ad e => by have := HNe.out ad e; have h2 := (HO.out.base_le ad e).2; simp; omega))
 have HWa := Hd (hA.old hBw (by simp; omega))
 clear hs hA HS0 HS4
 refine zcu (n := 11) (by kernel_rfl) (by kernel_rfl) ?_
 have HA2 := Hd HA.out.drew
 have HOa2 : Hid (OwnZ wa.drew base 24 32 A n c (u8v x)) := Hd HOa.out
 have HWa2 : Hid (Below B w wa.drew) := Hd ⟨HWa.out.os, HWa.out.tape, HWa.out.output, HWa.out.size, HWa.out.block⟩
 have hsz2 : w.heap.size ≤ wa.drew.heap.size := hsz
 clear HA HOa HWa hsz
 have HA := HA2
 have HOa := HOa2
 have HWa := HWa2
 have hsz := hsz2
 clear HA2 HOa2 HWa2 hsz2
 generalize wa.drew = wv at HA HOa HWa hsz ⊢
 refine zas (i := 0) (.pointer (some ⟨g, 0, none⟩)) rfl (by kernel_rfl) (by kernel_rfl) (by kernel_rfl) rfl (fun _ _ _ h => h) (zce (.inl rfl) rfl) ?_
 refine zas (i := 1) (.pointer (some ⟨g, 0, none⟩)) rfl (by kernel_rfl) (by kernel_rfl) (by kernel_rfl) rfl (fun _ _ _ h => h) (zce (.inl rfl) rfl) ?_
 refine zas (i := 2) (.pointer (some ⟨g, 0, none⟩)) rfl (by kernel_rfl) (by kernel_rfl) (by kernel_rfl) rfl (fun _ _ _ h => h) (zcx rfl rfl) ?_
 refine zas (i := 3) (.pointer (some ⟨g, 0, none⟩)) rfl (by kernel_rfl) (by kernel_rfl) (by kernel_rfl) rfl (fun _ _ _ h => h) (zbh rfl rfl (fun w => by simp [go_sem])) ?_
 simp only [pcX]
 refine zay (i := 4) (j := 5) rfl rfl (by kernel_rfl) rfl rfl (fun K hK => ?_) (fun K hK => ?_)
 refine zbr (.slice A n c) (zcr rfl rfl (zdt _ _ wv ((HA.out.row 1 rfl).cell (i := 0) (by show 0 < 2; omega)))) ?_
 refine hK _ _ ?_
 clear hK
 simp only [pcX]
 refine zah (i := 5) rfl (by kernel_rfl) rfl (fun K hK => ?_)
 refine zbr (rootV r) (zc1 (r := r) rfl rfl wv (HA.out.row 0 rfl)) ?_
 refine hK _ _ ?_
 clear hK
 simp only [pcX]
 refine zah (i := 6) rfl (by kernel_rfl) rfl (fun K hK => ?_)
 refine zci Ty32 s24 (by omega) (by omega) z24 _ rfl (u8v r) rfl (HS.nil wv) ?_
 intro b21 wl hb21 _ hl
 have HL := Hd hl
 clear hl
 refine hK _ _ ?_
 clear hK
 simp only [pcX]
 rotate_left
 refine zbr (rootV r) (zc1 (r := r) rfl rfl wv (HA.out.row 0 rfl)) ?_
 refine hK _ _ ?_
 clear hK
 simp only [pcX]
 refine zay (i := 4) (j := 6) rfl rfl (by kernel_rfl) rfl rfl (fun K hK => ?_) (fun K hK => ?_)
 refine zbr (.slice A n c) (zcr rfl rfl (zdt _ _ wv ((HA.out.row 1 rfl).cell (i := 0) (by show 0 < 2; omega)))) ?_
 refine hK _ _ ?_
 clear hK
 simp only [pcX]
 refine zah (i := 6) rfl (by kernel_rfl) rfl (fun K hK => ?_)
 refine zci Ty32 s24 (by omega) (by omega) z24 _ rfl (u8v r) rfl (HS.nil wv) ?_
 intro b21 wl hb21 _ hl
 have HL := Hd hl
 clear hl
 refine hK _ _ ?_
 clear hK
 simp only [pcX]
 rotate_left
 refine zci Ty32 s24 (by omega) (by omega) z24 _ rfl (u8v r) rfl (HS.nil wv) ?_
 intro b21 wl hb21 _ hl
 have HL := Hd hl
 clear hl
 refine hK _ _ ?_
 clear hK
 simp only [pcX]
 refine zah (i := 4) rfl (by kernel_rfl) rfl (fun K hK => ?_)
 refine zbr (.slice A n c) (zcr rfl rfl (zdt _ _ wl ((zaj (HA.out.row 1 rfl) (HL.out.out (by simp; omega)) (HA.out.row 1 rfl).lt).cell (i := 0) (by show 0 < 2; omega)))) ?_
 refine hK _ _ ?_
 clear hK
 simp only [pcX]
 all_goals
  have hwl := HL.out
  have hb := hwl.out (by simp; omega)
  have ho' := HOa.out.all hb
  have hr21 := Rd.of_row (hwl.row 0 rfl) lR (hwl.lt 0 rfl)
  have hbw' : base ≤ wl.heap.size := lT hbw (lT hsz hb.size)
  have hwb := HWa.out.trans (hb.mono (lT hBw hsz))
  have hrg : wl.rowIs g 90 2 (hashF A n c) := zaj (HA.out.row 1 rfl) hb (HA.out.row 1 rfl).lt
  refine zah (i := 7) rfl (by kernel_rfl) rfl (fun K hK => ?_)
  refine zdy wl (.tmp 19) (.tmp 21) 32 base i24 Ty32 (by rfl) (by omega) rfl (n + 1) (u8v (catN (n * 32) x r)) rfl rfl ho' hr21 (fun _ _ => rfl) rfl zjs ⟨by omega, by omega⟩ hbw' ?_
  intro A22 c22 w22 ho22 hg22 ha22
  have hrg2 := hrg.of_block (hg22.block g hrg.lt (fun e => by
   cases A with
   | none => cases e
   | some ad => injection e with e; exact HNe.out ad rfl e.symm))
  have hw22 := za4 hwb hg22 (lT hBb hbw') (fun ad e => lT hBb (HO.out.base_le ad e).1)
  have hne22 : ∀ ad, A22 = some ad → ad.block ≠ g := fun ad e => by
   rcases ha22 ad e with h | h
   ·cases A with
    | none => cases h
    | some ad' => injection h with h; rw [h]; exact HNe.out ad' rfl
   ·have := hrg.lt; omega
  have HO22 := Hd ho22
  clear ho' hbw' hwb hrg hg22 ha22 ho22 hb hr21 hwl
  refine hK _ _ ?_
  clear hK
  simp only [pcX]
  refine zah (i := 8) rfl (by kernel_rfl) rfl (fun K hK => ?_)
  refine zbr (.pointer (some ⟨g, 0, none⟩)) (zcx rfl rfl _) ?_
  refine hK _ _ ?_
  clear hK
  simp only [pcX]
  refine zah (i := 9) rfl (by kernel_rfl) rfl (fun K hK => ?_)
  refine zbr (.pointer (some ⟨g, 0, none⟩)) (zbh rfl rfl (fun w => by simp [go_sem]) _) ?_
  refine hK _ _ ?_
  clear hK
  simp only [pcX]
  refine zah (i := 10) rfl (by kernel_rfl) rfl (fun K hK => ?_)
  refine zdf rfl rfl (v := .slice A22 (n + 1) c22) rfl rfl (zjt ⟨g, 0, none⟩ A22 (n + 1) c22 _ w22 (hrg2.cell (i := 0) (by show 0 < 2; omega)) (hrg2.frozen 0)) ?_
  refine hK _ _ (wpAny_done (by kernel_rfl) ?_ _)
  clear hK
  have hg := zbv (World.grownBy.refl w22 (some g)) (.inl rfl) (.slice A22 (n + 1) c22) (p := ⟨g, 0, none⟩)
  have hr3 := (hrg2.set 0 (.slice A22 (n + 1) c22)).congr (g := hashF A22 (n + 1) c22) (fun i hi => by
   by_cases e : i = 0
   ·subst e; rfl
   ·show (if i = 0 then _ else hashF A n c i) = hashF A22 (n + 1) c22 i
    rw [if_neg e]; unfold hashF; rw [if_neg e, if_neg e])
  have ho3 := HO22.out.kept hg (fun ad e h => by injection h with h; exact hne22 ad e h)
  have hw3 := hw22.grown hg (lT hBw hw22.size) (fun k hk => by injection hk with hk; omega)
  go_wp2_with fail
  go_end0
  exact ⟨rfl, ⟨A22, c22, hr3, ho3, hne22⟩, hw3⟩
namespace HashU64
theorem lay8 (v : Nat) : ∀ j, j < 32 → (if 0 ≤ j ∧ j < 0 + 8 then u8v (leB v) (j - 0) else u8v (fun _ => 0) j) = u8v (padN 8 (leB v)) j := fun j _ => by
 unfold padN
 by_cases h : j < 8
 ·rw [if_pos (by omega)]; simp only [u8v]; rw [if_pos h]; rfl
 ·rw [if_neg (by omega)]; simp only [u8v]; rw [if_neg h]
end HashU64
open HashU64 in
theorem zda (B base g n v : Nat) (x : Nat → Nat) (w : World) (hH : HashIs w base g n x) (hBb : B ≤ base) (hBg : B ≤ g) (hbw : base ≤ w.heap.size) (hn : n ≤ 1099511627776) :
 Calls Tryd.prog 54 #[.pointer (some ⟨g, 0, none⟩), .int .u64 (v : Int)] w fun e w' => e = .returned (.tuple #[]) ∧ HashIs w' base g (n + 1) (catN (n * 32) x (padN 8 (leB v))) ∧ Below B w w' := by
 obtain ⟨A, c, hr, ho, hne⟩ := hH
 have HO := Hd ho
 have HNe := Hd hne
 have hgl := hr.lt
 have hBw : B ≤ w.heap.size := lT hBb hbw
 have HS0 := Hd ((HS.nil w).take hr (fun r hr => by cases hr))
 clear hr ho hne
 go_enter Tryd.func54, Tryd.ntmps54
 go_wp2_with (first
  | (refine zac rfl 24 4 rfl rfl HS0.out _ z24 32 (u8v fun _ => 0) n24 f24 ?_; intro b4 w4 hb4 hc4 hs; have HS4 := Hd hs; clear hs)
  | (go_at_call 55; refine (zet v _).mono ?_; rintro e w5 ⟨rfl, hb⟩; have HS5 := Hd (HS4.out.below hb); clear hb)
  | (refine zac rfl 108 5 rfl rfl HS5.out (Array.replicate 8 (.int .u8 0)) (by kernel_rfl) 8 (u8v fun _ => 0) (by rfl) (zbg 8 (.int .u8 0)) ?_; intro b5 w5b hb5 hc5 hs; have HS5b := Hd hs; clear hs)
  | (refine zaf rfl 108 (.tmp 5) (.tmp 7) rfl HS5b.out 0 rfl (u8v (leB v)) rfl rfl (by kernel_rfl) (fun _ _ => rfl) ?_; intro w6 hs; have HS6 := Hd hs; clear hs))
 refine zao (l := [_, _]) (tl := []) (B := w6.heap.size) (w0 := w6) [sI (.slice (some ⟨b4, 0, none⟩) (32) (32)), sI (.slice (some ⟨b5, 0, none⟩) (8) (8))] (by kernel_rfl) (by kernel_rfl) rfl lR (Below.refl _ _) ⟨?_, ?_, trivial⟩ ?_
 ·exact zbe rfl rfl (oT rfl) (OpKo.no) (OpKo.no) (fun w => zbp Ty24 1 (by kernel_rfl) none none (0) (32) (.inl ⟨rfl, rfl⟩) (.inl ⟨rfl, rfl⟩) (by omega) (by omega) (by omega) (by omega) (by omega) (by omega))
 ·exact zbe rfl rfl (oT rfl) (OpKo.no) (OpKo.no) (fun w => zbp Ty108 1 (by kernel_rfl) none none (0) (8) (.inl ⟨rfl, rfl⟩) (.inl ⟨rfl, rfl⟩) (by omega) (by omega) (by omega) (by omega) (by omega) (by omega))
 ·intro w' hb
  simp only [fin, sI, forall_eq]
  simp only [pcX]
  have hs := HS6.out.below hb
  refine ze2 rfl Ty39 (by kernel_rfl) hs 1 rfl 0 32 32 (Rd.of_row (hs.row 0 rfl) lR (hs.lt 0 rfl)) (fun _ _ => rfl) 8 rfl (by omega) rfl rfl _ (lay8 v) ?_
  clear hs hb
  intro wa hs
  have hA : HS w wa [⟨b5, 108, 8, u8v (leB v)⟩, ⟨b4, 24, 32, u8v (padN 8 (leB v))⟩, ⟨g, 90, 2, hashF A n c⟩] := hs
  have HA := Hd hA
  have hsz := hA.size
  have HOa := Hd (HO.out.hs hA (fun ad e => by have := HNe.out ad e; have h2 := (HO.out.base_le ad e).2; simp; omega))
  have HWa := Hd (hA.old hBw (by simp; omega))
  clear hs hA HS0 HS4 HS5 HS5b HS6
  simp only [seqWp]
  go_wp2_with fail
  refine zcu (n := 11) (by kernel_rfl) (by kernel_rfl) ?_
  have HA2 := Hd HA.out.drew
  have HOa2 : Hid (OwnZ wa.drew base 24 32 A n c (u8v x)) := Hd HOa.out
  have HWa2 : Hid (Below B w wa.drew) := Hd ⟨HWa.out.os, HWa.out.tape, HWa.out.output, HWa.out.size, HWa.out.block⟩
  have hsz2 : w.heap.size ≤ wa.drew.heap.size := hsz
  clear HA HOa HWa hsz
  have HA := HA2
  have HOa := HOa2
  have HWa := HWa2
  have hsz := hsz2
  clear HA2 HOa2 HWa2 hsz2
  generalize wa.drew = wv at HA HOa HWa hsz ⊢
  refine zas (i := 0) (.pointer (some ⟨g, 0, none⟩)) rfl (by kernel_rfl) (by kernel_rfl) (by kernel_rfl) rfl (fun _ _ _ h => h) (zce (.inl rfl) rfl) ?_
  refine zas (i := 1) (.pointer (some ⟨g, 0, none⟩)) rfl (by kernel_rfl) (by kernel_rfl) (by kernel_rfl) rfl (fun _ _ _ h => h) (zce (.inl rfl) rfl) ?_
  refine zas (i := 2) (.pointer (some ⟨g, 0, none⟩)) rfl (by kernel_rfl) (by kernel_rfl) (by kernel_rfl) rfl (fun _ _ _ h => h) (zcx rfl rfl) ?_
  refine zas (i := 3) (.pointer (some ⟨g, 0, none⟩)) rfl (by kernel_rfl) (by kernel_rfl) (by kernel_rfl) rfl (fun _ _ _ h => h) (zbh rfl rfl (fun w => by simp [go_sem])) ?_
  simp only [pcX]
  refine zay (i := 4) (j := 5) rfl rfl (by kernel_rfl) rfl rfl (fun K hK => ?_) (fun K hK => ?_)
  refine zbr (.slice A n c) (zcr rfl rfl (zdt _ _ wv ((HA.out.row 2 rfl).cell (i := 0) (by show 0 < 2; omega)))) ?_
  refine hK _ _ ?_
  clear hK
  simp only [pcX]
  refine zah (i := 5) rfl (by kernel_rfl) rfl (fun K hK => ?_)
  refine zbr (rootV (padN 8 (leB v))) (zc1 (r := (padN 8 (leB v))) rfl rfl wv (HA.out.row 1 rfl)) ?_
  refine hK _ _ ?_
  clear hK
  simp only [pcX]
  refine zah (i := 6) rfl (by kernel_rfl) rfl (fun K hK => ?_)
  refine zci Ty32 s24 (by omega) (by omega) z24 _ rfl (u8v (padN 8 (leB v))) rfl (HS.nil wv) ?_
  intro b21 wl hb21 _ hl
  have HL := Hd hl
  clear hl
  refine hK _ _ ?_
  clear hK
  simp only [pcX]
  rotate_left
  refine zbr (rootV (padN 8 (leB v))) (zc1 (r := (padN 8 (leB v))) rfl rfl wv (HA.out.row 1 rfl)) ?_
  refine hK _ _ ?_
  clear hK
  simp only [pcX]
  refine zay (i := 4) (j := 6) rfl rfl (by kernel_rfl) rfl rfl (fun K hK => ?_) (fun K hK => ?_)
  refine zbr (.slice A n c) (zcr rfl rfl (zdt _ _ wv ((HA.out.row 2 rfl).cell (i := 0) (by show 0 < 2; omega)))) ?_
  refine hK _ _ ?_
  clear hK
  simp only [pcX]
  refine zah (i := 6) rfl (by kernel_rfl) rfl (fun K hK => ?_)
  refine zci Ty32 s24 (by omega) (by omega) z24 _ rfl (u8v (padN 8 (leB v))) rfl (HS.nil wv) ?_
  intro b21 wl hb21 _ hl
  have HL := Hd hl
  clear hl
  refine hK _ _ ?_
  clear hK
  simp only [pcX]
  rotate_left
  refine zci Ty32 s24 (by omega) (by omega) z24 _ rfl (u8v (padN 8 (leB v))) rfl (HS.nil wv) ?_
  intro b21 wl hb21 _ hl
  have HL := Hd hl
  clear hl
  refine hK _ _ ?_
  clear hK
  simp only [pcX]
  refine zah (i := 4) rfl (by kernel_rfl) rfl (fun K hK => ?_)
  refine zbr (.slice A n c) (zcr rfl rfl (zdt _ _ wl ((zaj (HA.out.row 2 rfl) (HL.out.out (by simp; omega)) (HA.out.row 2 rfl).lt).cell (i := 0) (by show 0 < 2; omega)))) ?_
  refine hK _ _ ?_
  clear hK
  simp only [pcX]
  all_goals
   have hwl := HL.out
   have hb := hwl.out (by simp; omega)
   have ho' := HOa.out.all hb
   have hr21 := Rd.of_row (hwl.row 0 rfl) lR (hwl.lt 0 rfl)
   have hbw' : base ≤ wl.heap.size := lT hbw (lT hsz hb.size)
   have hwb := HWa.out.trans (hb.mono (lT hBw hsz))
   have hrg : wl.rowIs g 90 2 (hashF A n c) := zaj (HA.out.row 2 rfl) hb (HA.out.row 2 rfl).lt
   refine zah (i := 7) rfl (by kernel_rfl) rfl (fun K hK => ?_)
   refine zdy wl (.tmp 15) (.tmp 17) 32 base i24 Ty32 (by rfl) (by omega) rfl (n + 1) (u8v (catN (n * 32) x (padN 8 (leB v)))) rfl rfl ho' hr21 (fun _ _ => rfl) rfl zjs ⟨by omega, by omega⟩ hbw' ?_
   intro A22 c22 w22 ho22 hg22 ha22
   have hrg2 := hrg.of_block (hg22.block g hrg.lt (fun e => by
    cases A with
    | none => cases e
    | some ad => injection e with e; exact HNe.out ad rfl e.symm))
   have hw22 := za4 hwb hg22 (lT hBb hbw') (fun ad e => lT hBb (HO.out.base_le ad e).1)
   have hne22 : ∀ ad, A22 = some ad → ad.block ≠ g := fun ad e => by
    rcases ha22 ad e with h | h
    ·cases A with
     | none => cases h
     | some ad' => injection h with h; rw [h]; exact HNe.out ad' rfl
    ·have := hrg.lt; omega
   have HO22 := Hd ho22
   clear ho' hbw' hwb hrg hg22 ha22 ho22 hb hr21 hwl
   refine hK _ _ ?_
   clear hK
   simp only [pcX]
   refine zah (i := 8) rfl (by kernel_rfl) rfl (fun K hK => ?_)
   refine zbr (.pointer (some ⟨g, 0, none⟩)) (zcx rfl rfl _) ?_
   refine hK _ _ ?_
   clear hK
   simp only [pcX]
   refine zah (i := 9) rfl (by kernel_rfl) rfl (fun K hK => ?_)
   refine zbr (.pointer (some ⟨g, 0, none⟩)) (zbh rfl rfl (fun w => by simp [go_sem]) _) ?_
   refine hK _ _ ?_
   clear hK
   simp only [pcX]
   refine zah (i := 10) rfl (by kernel_rfl) rfl (fun K hK => ?_)
   refine zdf rfl rfl (v := .slice A22 (n + 1) c22) rfl rfl (zjt ⟨g, 0, none⟩ A22 (n + 1) c22 _ w22 (hrg2.cell (i := 0) (by show 0 < 2; omega)) (hrg2.frozen 0)) ?_
   refine hK _ _ (wpAny_done (by kernel_rfl) ?_ _)
   clear hK
   have hg := zbv (World.grownBy.refl w22 (some g)) (.inl rfl) (.slice A22 (n + 1) c22) (p := ⟨g, 0, none⟩)
   have hr3 := (hrg2.set 0 (.slice A22 (n + 1) c22)).congr (g := hashF A22 (n + 1) c22) (fun i hi => by
    by_cases e : i = 0
    ·subst e; rfl
    ·show (if i = 0 then _ else hashF A n c i) = hashF A22 (n + 1) c22 i
     rw [if_neg e]; unfold hashF; rw [if_neg e, if_neg e])
   have ho3 := HO22.out.kept hg (fun ad e h => by injection h with h; exact hne22 ad e h)
   have hw3 := hw22.grown hg (lT hBw hw22.size) (fun k hk => by injection hk with hk; omega)
   go_wp2_with fail
   go_end0
   exact ⟨rfl, ⟨A22, c22, hr3, ho3, hne22⟩, hw3⟩
end Go.Proofs.YtomilckcgmhfcaaDoor
namespace Go.Proofs.YtomilckcgmhfcaaDoor
set_option maxRecDepth 40000
set_option maxHeartbeats 64000000
theorem zub (a b : Nat) (ha : a < 9223372036854775808) (hb : b < 9223372036854775808) : bits .and .i64 (a : Int) (b : Int) = ((a &&& b : Nat) : Int) := by
 have h1 : (BitVec.ofInt 64 (a : Int)).toNat = a := by
  rw [BitVec.ofInt_natCast, BitVec.toNat_ofNat]; exact Nat.mod_eq_of_lt (by omega)
 have h2 : (BitVec.ofInt 64 (b : Int)).toNat = b := by
  rw [BitVec.ofInt_natCast, BitVec.toNat_ofNat]; exact Nat.mod_eq_of_lt (by omega)
 show IntKind.i64.wrap ((BitVec.ofInt 64 (a : Int) &&& BitVec.ofInt 64 (b : Int)).toNat : Int) = _
 rw [BitVec.toNat_and, h1, h2]
 have h3 : a &&& b ≤ a := Nat.and_le_left
 rw [IntKind.wrap_i64]
 omega
theorem zr4 (k : Nat) : 2 ^ k &&& (2 ^ k - 1) = 0 := by
 rw [Nat.and_two_pow_sub_one_eq_mod]; exact Nat.mod_self _
theorem zuc (k m : Nat) (h1 : 2 ^ k < m) (h2 : m < 2 ^ (k + 1)) : m &&& (m - 1) ≠ 0 := by
 intro h
 have t : ∀ x, 2 ^ k ≤ x → x < 2 ^ (k + 1) → x.testBit k = true := fun x ha hb => by
  have hx : x / 2 ^ k = 1 := by
   have hp : 2 ^ (k + 1) = 2 * 2 ^ k := by rw [Nat.pow_succ]; omega
   have h0 : 0 < 2 ^ k := Nat.pow_pos (by omega)
   exact Nat.div_eq_of_lt_le (by omega) (by omega)
  rw [Nat.testBit_eq_decide_div_mod_eq, hx]; rfl
 have h3 := congrArg (fun y => y.testBit k) h
 simp only [Nat.testBit_and, Nat.zero_testBit] at h3
 rw [t m (by omega) h2, t (m - 1) (by omega) (by omega)] at h3
 cases h3
theorem zr5 {n m : Nat} (hn : 1 ≤ n) (h1 : n ≤ m) (h2 : m ≤ 2 ^ dep n) : m &&& (m - 1) = 0 ↔ m = 2 ^ dep n := by
 constructor
 ·intro h
  by_cases e : m = 2 ^ dep n
  ·exact e
  ·exfalso
   obtain ⟨d, hd⟩ : ∃ d, dep n = d := ⟨_, rfl⟩
   rw [hd] at h2 e
   cases d with
   | zero => simp at h2 e; omega
   | succ d =>
    have h3 := zl5 (l := n) (e := d) (by omega)
    exact zuc d m (by omega) (by omega) h
 ·rintro rfl
  exact zr4 _
end Go.Proofs.YtomilckcgmhfcaaDoor
namespace Go.Proofs.YtomilckcgmhfcaaDoor
set_option maxRecDepth 40000
set_option maxHeartbeats 64000000
open Go.RowKit
theorem zli {P : Program} {a : Act} {w : World} {Q : Exit → Act → World → Prop} {c R : Code} (l : Nat) (J : Act → World → Prop) (μ : Act → World → Nat) (hf : findLabel c l = some (.seq .skip R))
    (pass : ∀ a w, J a w → R.wp P (Exit.jump l (fun a' w' => J a' w' ∧ μ a' w' < μ a w) Q) a w)
    (first : (∀ a w, J a w → R.wp P (Exit.jump l J Q) a w) → c.wp P (Exit.jump l J Q) a w) : (Code.scope c).wp P Q a w := by
 refine wp_scope_jumps l J μ hf (first fun a w h => wp_mono (pass a w h) ?_) fun a w h => wp_seq (wp_skip (pass a w h))
 intro e a' w' he
 cases e with
 | goto l' => exact ⟨he.1, he.2.1⟩
 | _ => exact he
theorem ShaPkg.belowB {w w' : World} {B : Nat} (h : ShaPkg w) (hB : 0 < B ∧ 1 < B) (hb : Below B w w') : ShaPkg w' := h.keep fun b _ he => hb.block b (by rcases he with rfl | rfl; exact hB.1; exact hB.2)
theorem OwnZ.atSome {w : World} {base z n c : Nat} {e : TypeId} {A : Option Addr} {f : Nat → Value} (h : OwnZ w base e z A n c f) (hn : 0 < n) : ∃ bl, A = some ⟨bl, 0, none⟩ := by
 obtain ⟨g, cap, hv, hb, hlt⟩ := World.ownsRow.form h hn
 exact ⟨g, by injection hv⟩
namespace HashDone
theorem zdz (vs : Array Value) (w : World) : (callFunc 33 vs).run Tryd.prog w = .ok (.enter 33 vs) w := by kernel_rfl
def part (j : Nat) (X : Nat → Nat) : Nat → Nat := fun i => if i < j * 32 then lvl X i else X i
theorem zv9 (X : Nat → Nat) (j q : Nat) (hq : q < 32) : lvl X (j * 32 + q) = shaB (catN 32 (fun q => X (2 * j * 32 + q)) (fun q => X ((2 * j + 1) * 32 + q))) 64 q := by
 unfold lvl
 rw [show (j * 32 + q) / 32 = j by omega, show (j * 32 + q) % 32 = q by omega]
theorem zht (X : Nat → Nat) (j q : Nat) : (if j * 32 ≤ q ∧ q < j * 32 + 32 then shaB (catN 32 (fun q => X (2 * j * 32 + q)) (fun q => X ((2 * j + 1) * 32 + q))) 64 (q - j * 32) else part j X q) = part (j + 1) X q := by
 unfold part
 by_cases h : j * 32 ≤ q ∧ q < j * 32 + 32
 ·rw [if_pos h, if_pos (by omega), ← zv9 X j (q - j * 32) (by omega), show j * 32 + (q - j * 32) = q by omega]
 ·rw [if_neg h]
  by_cases h1 : q < j * 32
  ·rw [if_pos h1, if_pos (by omega)]
  ·rw [if_neg h1, if_neg (by omega)]
theorem zqd (X : Nat → Nat) (i : Nat) : lvl X i < 256 := zfx _ _ _
def G (m : Nat) (X : Nat → Nat) (F : Nat → Value) (j : Nat) : Nat → Value := fun i => if i < 2 * m * 32 then u8v (part j X) i else F i
theorem g_at {m j k i : Nat} {X : Nat → Nat} {F : Nat → Value} (h : j ≤ k) (hk : k < 2 * m) (hi : i < 32) : G m X F j (k * 32 + i) = u8v (fun q => X (k * 32 + q)) i := by
 unfold G part
 rw [if_pos (by omega)]
 simp only [u8v]
 rw [if_neg (by omega)]
theorem zqe {m j N : Nat} {X : Nat → Nat} {F : Nat → Value} (hj : j < m) : ∀ q, q < N → (if j * 32 ≤ q ∧ q < j * 32 + 32 then u8v (shaB (catN 32 (fun q => X (2 * j * 32 + q)) (fun q => X ((2 * j + 1) * 32 + q))) 64) (q - j * 32) else G m X F j q) = G m X F (j + 1) q := fun q _ => by
 have h := zht X j q
 unfold G
 by_cases h1 : q < 2 * m * 32
 ·rw [if_pos h1, if_pos h1]
  simp only [u8v]
  rw [← h]
  split <;> rfl
 ·rw [if_neg h1, if_neg h1, if_neg (by omega)]
theorem zqf {m N : Nat} {X : Nat → Nat} {F : Nat → Value} (hF : ∀ i, i < 2 * m * 32 → F i = u8v X i) : ∀ i, i < N → F i = G m X F 0 i := fun i _ => by
 unfold G part
 by_cases h1 : i < 2 * m * 32
 ·rw [if_pos h1, hF i h1]; simp only [u8v]; rw [if_neg (by omega)]
 ·rw [if_neg h1]
theorem zti {m : Nat} {X : Nat → Nat} {F : Nat → Value} : ∀ i, i < m * 32 → G m X F m i = u8v (lvl X) i := fun i h => by
 unfold G part
 rw [if_pos (by omega)]
 simp only [u8v]
 rw [if_pos h]
theorem quo2 (m : Nat) (h2 : m ≤ 4611686018427387903) (w : World) : (binOp .quo 3 (.int .i64 ((2 * m : Nat) : Int)) (.int .i64 2)).run Tryd.prog w = .ok (.int .i64 (m : Int)) w := by
 simp [go_sem, IntKind.wrap, IntKind.bits, IntKind.signed]
 omega
theorem and1 (m : Nat) (h1 : 1 ≤ m) (h2 : m ≤ 1099511627776) (w : World) : (binOp .and 3 (.int .i64 (m : Int)) (.int .i64 ((m : Int) - 1))).run Tryd.prog w = .ok (.int .i64 ((m &&& (m - 1) : Nat) : Int)) w := by
 have e : ((m : Int) - 1) = ((m - 1 : Nat) : Int) := by omega
 rw [e, ← zub m (m - 1) (by omega) (by omega)]
 simp [go_sem]
theorem and0 (m : Nat) (h1 : 1 ≤ m) (h2 : m ≤ 1099511627776) (h : m &&& (m - 1) = 0) (w : World) : (binOp .and 3 (.int .i64 (m : Int)) (.int .i64 ((m : Int) - 1))).run Tryd.prog w = .ok (.int .i64 0) w := by
 have := and1 m h1 h2 w
 rw [h] at this
 exact this
theorem built0 : Tryd.prog.built 24 [] = some (arr 32 (u8v fun _ => 0)) := by kernel_rfl
theorem zr6 {n m : Nat} {x : Nat → Nat} (h : n ≤ m) : ∀ i, i < (m + 1) * 32 → catF (m * 32) (u8v (padN (n * 32) x)) (u8v fun _ => 0) i = u8v (padN (n * 32) x) i := fun i _ => by
 unfold catF
 by_cases h1 : i < m * 32
 ·rw [if_pos h1]
 ·rw [if_neg h1]; simp only [u8v, padN]; rw [if_neg (by omega)]
def J (w : World) (B base g : Nat) (R : Nat → Nat) (a : Act) (wr : World) : Prop := ∃ (d p c b2 bl : Nat) (X : Nat → Nat) (F : Nat → Value) (u1 u5 u6 u7 u8 u9 u10 u11 u12 u13 u14 u15 u16 u17 u18 u19 u20 u21 u22 u23 u24 u25 u26 u27 u28 u29 u30 u31 u32 u33 u34 u35 u36 u37 u38 u39 u40 u41 u42 u43 u44 u45 u46 u47 u48 u49 u50 u51 u52 u53 u54 u55 u56 u57 u58 u59 u60 u61 u62 u63 : Value),
 a = ⟨#[.pointer (some ⟨g, 0, none⟩), u1, .pointer (some ⟨b2, 0, none⟩), .int .i64 0, .slice (some ⟨bl, 0, none⟩) p c, u5, u6, u7, u8, u9, u10, u11, u12, u13, u14, u15, u16, u17, u18, u19, u20, u21, u22, u23, u24, u25, u26, u27, u28, u29, u30, u31, u32, u33, u34, u35, u36, u37, u38, u39, u40, u41, u42, u43, u44, u45, u46, u47, u48, u49, u50, u51, u52, u53, u54, u55, u56, u57, u58, u59, u60, u61, u62, u63], []⟩ ∧ p = 2 ^ d ∧ p ≤ c ∧ c ≤ 9223372036854775807 ∧ (∀ i, X i < 256) ∧ (∀ i, i < 32 → fullN d X i = R i) ∧ (∀ i, i < p * 32 → F i = u8v X i) ∧
 wr.rowIs b2 24 32 (u8v fun _ => 0) ∧ wr.rowIs bl 24 (c * 32) F ∧ b2 ≠ bl ∧ w.heap.size ≤ b2 ∧ base ≤ bl ∧ Below B w wr
def mu (a : Act) : Nat := match a.tmps.getD 4 undef with | .slice _ n _ => n | _ => 0
end HashDone
open HashDone in
set_option maxRecDepth 100000 in
theorem zc2 (B base g n : Nat) (x : Nat → Nat) (w : World) (hH : HashIs w base g n x) (hx : ∀ i, x i < 256) (hBb : B ≤ base) (hBg : B ≤ g) (hbw : base ≤ w.heap.size) (h1 : 1 ≤ n) (hn : n ≤ 1099511627776) (hp : ShaPkg w) (hpB : 0 < B ∧ 1 < B) :
 Calls Tryd.prog 40 #[.pointer (some ⟨g, 0, none⟩)] w fun e w' => e = .returned (.tuple #[rootV (treeN (dep n) n x), .int .i64 0]) ∧ Below B w w' := by
 obtain ⟨R, hRR⟩ : ∃ R, R = treeN (dep n) n x := ⟨_, rfl⟩
 rw [← hRR]
 obtain ⟨N, hN⟩ : ∃ N, N = 2 ^ dep n := ⟨_, rfl⟩
 have hRf : ∀ i, i < 32 → fullN (dep n) (padN (n * 32) x) i = R i := fun i hi => by rw [hRR]; exact (zfh (dep n) n x (zb5 n) i hi).symm
 obtain ⟨A, c, hr, ho, hne⟩ := hH
 have HO := Hd ho
 have HNe := Hd hne
 have HP := Hd hp
 have HPB := Hd hpB
 have HX := Hd hx
 have HR := Hd hRf
 have HS0 := Hd ((HS.nil w).take hr (fun r hr => by cases hr))
 have hd40 : dep n ≤ 40 := zd4 (k := 40) (by omega)
 have hN1 : n ≤ N := by rw [hN]; exact zb5 n
 have hN2 : N ≤ 1099511627776 := by rw [hN]; exact Nat.pow_le_pow_right (n := 2) (by omega) hd40
 have HN := Hd hN
 have HL := Hd (fun m (ha : n ≤ m) (hb : m ≤ N) => zr5 (n := n) (m := m) h1 ha (by rw [← hN]; exact hb))
 have hBw : B ≤ w.heap.size := lT hBb hbw
 have hgl := hr.lt
 clear hr ho hne hp hpB hx hRR hRf hN
 go_enter Tryd.func40, Tryd.ntmps40
 go_wp2_with (first
  | (refine zac rfl 24 2 rfl rfl HS0.out _ z24 32 (u8v fun _ => 0) n24 f24 ?_; intro b2 w2 hb2 hc2 hs2; have c1 : w2.cell? ⟨g, 1, none⟩ = some (.int .i64 0) := hs2.cell 1 1 rfl (by show 1 < 2; omega); have c0 : w2.cell? ⟨g, 0, none⟩ = some (.slice A n c) := hs2.cell 1 0 rfl (by show 0 < 2; omega); have HS2 := Hd hs2; clear hs2))
 refine zli 0 (J w B base g R) (fun a _ => mu a) rfl ?_ ?_
 ·rintro a wp0 ⟨d, p, c, b2, bl, X, F, u1, u5, u6, u7, u8, u9, u10, u11, u12, u13, u14, u15, u16, u17, u18, u19, u20, u21, u22, u23, u24, u25, u26, u27, u28, u29, u30, u31, u32, u33, u34, u35, u36, u37, u38, u39, u40, u41, u42, u43, u44, u45, u46, u47, u48, u49, u50, u51, u52, u53, u54, u55, u56, u57, u58, u59, u60, u61, u62, u63, rfl, hd, hdc, hc, hXl, hfull, hF, hr2, hrl, hne, hb2, hbl, hW⟩
  have HXl := Hd hXl
  have HFl := Hd hfull
  have HF := Hd hF
  have HRl := Hd hrl
  have HW0 := Hd hW
  have hsz0 := hW.size
  have HT := Hd (((HS.nil wp0).take hrl (fun r hr => by cases hr)).take hr2 (fun r hr => by simp at hr; rw [hr]; exact fun e => hne e.symm))
  clear hXl hfull hF hr2 hrl hW HS2 HS0 c0 c1 HO HNe HX HR HL HN
  cases d with
  | zero =>
   obtain rfl : p = 1 := hd
   go_wp2_with (first
    | (refine zae rfl 24 _ rfl 32 _ Ty24 rfl s24 ⟨bl, 0, none⟩ rfl (u8v X) (fun q hq => by rw [zai]; exact (HRl.out.cell (by omega)).trans (congrArg some (HF.out q (by omega)))) ?_)
    | (refine zaf rfl 24 (.tmp 2) (.tmp 63) rfl HT.out 0 rfl (u8v X) rfl rfl (by kernel_rfl) (fun _ _ => rfl) ?_; intro wy hs; have HY := Hd hs; clear hs))
   simp only [Exit.jump]
   exact zb4 rfl (HY.out.row 0 rfl) _ (.int .i64 0) rfl rfl Ty24 rfl s24 rfl ⟨by rw [show arr 32 (u8v X) = arr 32 (u8v R) from zca fun i hi => congrArg (fun k : Nat => Value.int .u8 (k : Int)) (HFl.out i hi)], HW0.out.trans (HY.out.old (by omega) (by simp; omega))⟩
  | succ d =>
   obtain ⟨m, hm⟩ : ∃ m, m = 2 ^ d := ⟨_, rfl⟩
   obtain rfl : p = 2 * m := by rw [hd, hm, Nat.pow_succ]; omega
   have hm0 : 1 ≤ m := by rw [hm]; exact Nat.pow_pos (by omega)
   have HM := Hd hm
   have hmc : 2 * m ≤ c := hdc
   have HT0 := Hd (HT.out.congr 1 rfl (g := G m X F 0) (zqf HF.out))
   clear hm hd HT HF
   go_wp2_with (first
    | (refine zab rfl 36 rfl (.int .i64 (m : Int)) ?_ ?_; (· exact za1 rfl rfl rfl rfl (fun w => quo2 m (by omega) w) _)))
   go_loopw [37] (fun t wr => ∃ j : Nat, t = .int .i64 (j : Int) ∧ j ≤ m ∧ HS wp0 wr [⟨b2, 24, 32, u8v fun _ => 0⟩, ⟨bl, 24, c * 32, G m X F j⟩]) (fun t _ => m - (intOf t).toNat)
   case atStart => exact ⟨0, rfl, by omega, HT0.out⟩
   case round =>
    clear HT0 HRl
    obtain ⟨j, rfl, hj, hs⟩ := hrel
    have HSq := Hd hs
    have HWr := Hd (HW0.out.trans (hs.old (B := B) (by omega) (by simp; omega)))
    have HSz := Hd (show B ≤ wr.heap.size by have := hs.size; omega)
    clear hs
    by_cases hjm : j < m
    ·go_wp2_with fail
     refine zao (l := [_, _, _, _, _, _, _, _, _, _, _, _, _, _, _]) (tl := []) (B := wr.heap.size) (w0 := wr) [sI (.slice (some ⟨bl, 0, none⟩) (2 * m) (c)), sI (.int .i64 ((j : Nat) : Int)), sI (.slice (some ⟨bl, 0, none⟩) (2 * m) (c)), sI (.int .i64 ((j : Nat) : Int)), sI (.int .i64 ((2 * j : Nat) : Int)), sI (.pointer (some ⟨bl, 2 * j * 32, none⟩)), sI (rootV (fun q => X (2 * j * 32 + q))), sI (.slice (some ⟨bl, 0, none⟩) (2 * m) (c)), sI (.int .i64 ((j : Nat) : Int)), sI (.int .i64 ((2 * j : Nat) : Int)), sI (.int .i64 ((2 * j + 1 : Nat) : Int)), sI (.pointer (some ⟨bl, (2 * j + 1) * 32, none⟩)), sI (rootV (fun q => X ((2 * j + 1) * 32 + q))), sI (rootV (shaB (catN 32 (fun q => X (2 * j * 32 + q)) (fun q => X ((2 * j + 1) * 32 + q))) 64)), sI (.pointer (some ⟨bl, j * 32, none⟩))] (by kernel_rfl) (by kernel_rfl) rfl lR (Below.refl _ _) ⟨?_, ?_, ?_, ?_, ?_, ?_, ?_, ?_, ?_, ?_, ?_, ?_, ?_, ?_, ?_, trivial⟩ ?_
     ·exact (zaa _ rfl (.inl rfl) rfl)
     ·exact (zaa _ rfl (.inl rfl) rfl)
     ·exact (zaa _ rfl (.inl rfl) rfl)
     ·exact (zaa _ rfl (.inl rfl) rfl)
     ·exact zbn 2 j (by omega) rfl rfl OpK.const (oT rfl)
     ·exact zak rfl rfl (oT rfl) (oT rfl) (fun w => (zaw (z := 32) w Ty32 (by kernel_rfl) ⟨bl, 0, none⟩ (by omega)).trans (by rw [zai]))
     ·exact zad rfl rfl (oT rfl) (fun w' hb => zax w' bl (2 * j * 32) 32 24 _ (u8v (fun q => X (2 * j * 32 + q))) (fun i hi => ((zaj (HSq.out.row 1 rfl) hb (HSq.out.row 1 rfl).lt).cell (i := 2 * j * 32 + i) (show 2 * j * 32 + i < c * 32 by omega)).trans (congrArg some (g_at (by omega) (by omega) hi))) Ty24 rfl s24)
     ·exact (zaa _ rfl (.inl rfl) rfl)
     ·exact (zaa _ rfl (.inl rfl) rfl)
     ·exact zbn 2 j (by omega) rfl rfl OpK.const (oT rfl)
     ·exact zcc (2 * j) 1 (by omega) rfl rfl (oT rfl) OpK.const
     ·exact zak rfl rfl (oT rfl) (oT rfl) (fun w => (zaw (z := 32) w Ty32 (by kernel_rfl) ⟨bl, 0, none⟩ (by omega)).trans (by rw [zai]))
     ·exact zad rfl rfl (oT rfl) (fun w' hb => zax w' bl ((2 * j + 1) * 32) 32 24 _ (u8v (fun q => X ((2 * j + 1) * 32 + q))) (fun i hi => ((zaj (HSq.out.row 1 rfl) hb (HSq.out.row 1 rfl).lt).cell (i := (2 * j + 1) * 32 + i) (show (2 * j + 1) * 32 + i < c * 32 by omega)).trans (congrArg some (g_at (by omega) (by omega) hi))) Ty24 rfl s24)
     ·exact zbi zdz rfl rfl (oT rfl) (oT rfl) (fun w' hb => (zem (fun q => X (2 * j * 32 + q)) (fun q => X ((2 * j + 1) * 32 + q)) (fun _ => HXl.out _) (fun _ => HXl.out _) w' (HP.out.belowB HPB.out (HWr.out.trans (hb.mono HSz.out)))).mono fun e w'' ⟨he, hb2⟩ => ⟨_, he, rfl, hb2⟩)
     ·exact zak rfl rfl (oT rfl) (oT rfl) (fun w => (zaw (z := 32) w Ty32 (by kernel_rfl) ⟨bl, 0, none⟩ (by omega)).trans (by rw [zai]))
     ·intro w' hb
      simp only [fin, sI, forall_eq]
      simp only [pcX]
      have hs := HSq.out.below hb
      refine zds 24 (.tmp 54) (.tmp 53) rfl hs 1 rfl (j * 32) 32 (u8v (shaB (catN 32 (fun q => X (2 * j * 32 + q)) (fun q => X ((2 * j + 1) * 32 + q))) 64)) rfl rfl (by kernel_rfl) (by omega) (fun _ _ => rfl) (G m X F (j + 1)) (zqe hjm) ?_
      clear hs hb
      intro wy hs
      have HY := Hd hs
      clear hs
      simp only [seqWp, Act.put]
      go_wp2_with fail
      go_roundw
      case rel => exact ⟨j + 1, by go_num, by omega, HY.out⟩
      case measure => simp [intOf]; omega
    ·obtain rfl : j = m := by omega
     go_wp2_with (first
      | (refine zab rfl 59 rfl (.int .i64 (j : Int)) ?_ ?_; (· exact za1 rfl rfl rfl rfl (fun w => quo2 j (by omega) w) _))
      | (refine zab rfl 60 rfl (.slice (some ⟨bl, 0, none⟩) j c) ?_ ?_; (· exact zi8 rfl rfl rfl rfl (fun w => zki (z := 32) Ty32 (by kernel_rfl) (some ⟨bl, 0, none⟩) (2 * j) c j (by omega) w) _)))
     apply wp_goto
     exact ⟨rfl, ⟨d, j, c, b2, bl, lvl X, G j X F j, _, _, _, _, _, _, _, _, _, _, _, _, _, _, _, _, _, _, _, _, _, _, _, _, _, _, _, _, _, _, _, _, _, _, _, _, _, _, _, _, _, _, _, _, _, _, _, _, _, _, _, _, _, _, _, _, _, _, _, _, rfl, HM.out, by omega, hc, zqd X, fun i hi => (zgb d X i hi).symm.trans (HFl.out i hi), zti, HSq.out.row 0 rfl, HSq.out.row 1 rfl, hne, hb2, hbl, HWr.out⟩, by simp [mu]; omega⟩
 ·intro hpass
  go_wp2_with fail
  have HO2 := Hd (HO.out.hs HS2.out (fun ad e => by have := HNe.out ad e; have h2 := (HO.out.base_le ad e).2; simp; omega))
  go_loopw [4] (fun t wr => ∃ (m : Nat) (A' : Option Addr) (c' : Nat), t = .slice A' m c' ∧ n ≤ m ∧ m ≤ N ∧ OwnZ wr base 24 32 A' m c' (u8v (padN (n * 32) x)) ∧ wr.rowIs b2 24 32 (u8v fun _ => 0) ∧ Below B w wr ∧ (∀ ad, A' = some ad → ad.block ≠ b2)) (fun t _ => match t with | .slice _ m _ => N - m | _ => 0)
  case atStart => exact ⟨n, A, c, rfl, Nat.le_refl _, hN1, HO2.out.congr (fun i hi => by simp only [u8v, padN]; rw [if_pos hi]), HS2.out.row 0 rfl, HS2.out.old hBw (by simp; omega), fun ad e => by have := (HO.out.base_le ad e).2; omega⟩
  case round =>
   clear HS2 HS0 HO2 c0 c1
   obtain ⟨m, A', c', rfl, hm1, hm2, hoq, hr2, hW, hne⟩ := hrel
   have HOq := Hd hoq
   have HR2 := Hd hr2
   have HWq := Hd hW
   have HNq := Hd hne
   have hsz := hW.size
   have hl := HL.out m hm1 hm2
   clear hoq hr2 hW hne
   by_cases hmN : m = N
   ·subst hmN
    have h0 := hl.2 HN.out
    obtain ⟨bl, rfl⟩ := HOq.out.atSome (by omega)
    obtain ⟨F, hrl, hF, hbl⟩ := HOq.out.row
    have HRl := Hd hrl
    have HF := Hd hF
    have hcap := HOq.out.cap
    have hcapM : c' ≤ 9223372036854775807 := HOq.out.capM
    have hb2l : b2 ≠ bl := fun e => HNq.out _ rfl e.symm
    have hlt2 := HR2.out.lt
    clear hrl hF hl
    go_wp2_with (first
     | (refine zab rfl 25 rfl (.int .i64 0) ?_ ?_; (· exact za1 rfl rfl rfl rfl (fun w => and0 m (by omega) (by omega) h0 w) _)))
    apply wp_label
    rename_i hk
    exact hk _ _ <| hpass _ _ ⟨dep n, m, c', b2, bl, padN (n * 32) x, F, _, _, _, _, _, _, _, _, _, _, _, _, _, _, _, _, _, _, _, _, _, _, _, _, _, _, _, _, _, _, _, _, _, _, _, _, _, _, _, _, _, _, _, _, _, _, _, _, _, _, _, _, _, _, _, _, _, _, _, _, rfl, HN.out, hcap, hcapM, za6 HX.out, HR.out, HF.out, HR2.out, HRl.out, hb2l, hb2, hbl, HWq.out⟩
   ·have h0 := fun e => hmN (hl.1 e |>.trans HN.out.symm)
    obtain ⟨q, hq⟩ : ∃ q, q = m &&& (m - 1) := ⟨_, rfl⟩
    have HQ := Hd hq
    have hq0 : ((q : Int) != 0) = true := by rw [bne_iff_ne]; intro e; exact h0 (by omega)
    clear hl h0 hq
    go_wp2_with (first
     | (refine zab rfl 25 rfl (.int .i64 (q : Int)) ?_ ?_; (· rw [HQ.out]; exact za1 rfl rfl rfl rfl (fun w => and1 m (by omega) (by omega) w) _))
     | (refine zbx rfl 24 #[] rfl [] rfl _ built0 ?_)
     | (refine zbu rfl Ty32 s24 (by omega) (by omega) z24 _ rfl (u8v fun _ => 0) rfl (HS.nil _) ?_; intro b29 w29 hb29 hc29 hs29; have HS29 := Hd hs29; clear hs29)
     | (at_builtin; refine zba _ (.tmp 27) (.tmp 29) 32 base i24 Ty32 (by rfl) (by omega) rfl rfl (m + 1) (u8v (padN (n * 32) x)) rfl rfl (HOq.out.all (HS29.out.out (by simp; omega))) (Rd.of_row (HS29.out.row 0 rfl) lR (HS29.out.lt 0 rfl)) (fun _ _ => rfl) rfl (zr6 hm1) ⟨by omega, by omega⟩ (by have := HS29.out.size; omega) ?_; intro A30 c30 w30 ho30 hg30 ha30; have HO30 := Hd ho30; have HG30 := Hd hg30; have HA30 := Hd ha30; clear ho30 hg30 ha30))
    have hb29 := HS29.out.out (by simp; omega)
    have hr2a := zaj HR2.out hb29 HR2.out.lt
    have hr2b := hr2a.of_block (HG30.out.block b2 hr2a.lt (fun e => by
     cases A' with
     | none => cases e
     | some ad => injection e with e; exact HNq.out ad rfl e.symm))
    go_roundw
    case rel => exact ⟨m + 1, A30, c30, rfl, by omega, by omega, HO30.out, hr2b, za4 (HWq.out.trans (hb29.mono (by omega))) HG30.out (by have := hb29.size; omega) (fun ad e => lT hBb (HOq.out.base_le ad e).1), fun ad e => by
     rcases HA30.out ad e with h | h
     ·cases A' with
      | none => cases h
      | some ad' => injection h with h; rw [h]; exact HNq.out ad' rfl
     ·have := hr2a.lt; omega⟩
    case measure => simp; omega
end Go.Proofs.YtomilckcgmhfcaaDoor
