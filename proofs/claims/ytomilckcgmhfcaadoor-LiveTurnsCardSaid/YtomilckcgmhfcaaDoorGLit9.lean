/- Lemmas that the proof stands on. -/
import Derived.Test.YtomilckcgmhfcaaDoorGLit8
import Derived.Laws.MakeOwn
namespace Go.Proofs.YtomilckcgmhfcaaDoor
set_option maxRecDepth 40000
set_option maxHeartbeats 64000000
open Go.RowKit
theorem OwnZ.new0 (w : World) (base : Nat) (e : TypeId) (z : Nat) (f : Nat → Value) (hb : base ≤ w.heap.size) : OwnZ (w.alloc (.cells #[] e)) base e z (some ⟨w.heap.size, 0, none⟩) 0 0 f :=
 ⟨by simp, .inr ⟨w.heap.size, 0, #[], rfl, hb, heap_alloc_new w _, Nat.le_refl _, Nat.zero_le _, by simp, by simp⟩⟩
section
variable {P : Program} (w : World)
theorem zrz {t ty e : TypeId} {i : TypeInfo} {z : Value} {k : Nat} (ht : P.underlying t = some (.slice e)) (hi : P.info? e = some i) (hz : i.zero = some z) (hsize : i.size = k) (hk : 0 < k)
    (b a : Addr) (m cm B : Nat) (g : Nat → Value) (hr : Rd w B (some a) (m * k) g) (hm : 0 < m) (hbytes : m ≤ 9223372036854775807 ∧ m * i.bytes ≤ 140737488355328) :
    (Builtin.append_ #[t, t] ty #[.slice (some b) 0 0, .slice (some a) m cm]).run P w = (Builtin.append_ #[t, t] ty #[.slice none 0 0, .slice (some a) m cm]).run P w := by
 have hmk : 0 < m * k := Nat.mul_pos hm hk
 have hnews : ∀ j v, ((List.range (m * k)).map g)[j]? = some v → w.cell? (a.add j) = some v := fun j v hj => by
  have hjl : j < m * k := by
   rcases Nat.lt_or_ge j (m * k) with h | h
   ·exact h
   ·simp [h] at hj
  rw [hr.cell_ hjl]
  simp [hjl] at hj
  exact congrArg some hj
 have h1 := run_append_nil (P := P) w t ty e i z ht hi hz a m cm ((List.range (m * k)).map g) (by simp [hsize]) hnews hm (by omega) (by omega)
 have h2 := run_append_grow (P := P) w t ty e i z ht hi hz b 0 0 [] (by simp) (fun j v hj => by simp at hj) a m cm ((List.range (m * k)).map g) (by simp [hsize]) hnews (by omega) (by omega) (growslice_fits (by omega) (by rw [Nat.zero_add]; exact hbytes.2))
 rw [h1, h2]
 simp
theorem zp3 (base : Nat) {t ty e : TypeId} {i : TypeInfo} {z : Value} {k bytes : Nat} (ht : P.underlying t = some (.slice e)) (hi : P.info? e = some i) (hz : i.zero = some z)
    (hsize : i.size = k) (hk : 0 < k) (hby : i.bytes = bytes) (hzs : z.cells.size = k) {b : Addr} {f g : Nat → Value} (hown : OwnZ w base e k (some b) 0 0 f)
    {C : Option Addr} {m cm B : Nat} (hr : Rd w B C (m * k) g) (h1 : ∀ i, i < m * k → (g i).oneCell' = true) (hbytes : m ≤ 9223372036854775807 ∧ m * bytes ≤ 140737488355328) (hbase : base ≤ w.heap.size) :
    ∃ A' c' w', (Builtin.append_ #[t, t] ty #[.slice (some b) 0 0, .slice C m cm]).run P w = .ok (.slice A' m c') w' ∧ OwnZ w' base e k A' m c' g ∧ Below w.heap.size w w' := by
 by_cases hm : m = 0
 ·subst hm
  have hrun : (Builtin.append_ #[t, t] ty #[.slice (some b) 0 0, .slice C 0 cm]).run P w = .ok (.slice (some b) 0 0) w := by
   rcases C with _ | ad <;> simp [Builtin.append_, run_underlying ht, sizeOf, typeInfo, hi, Builtin.lenOf, Builtin.firstCells, storeCells, loadCells, loadCellsFrom]
  exact ⟨_, _, _, hrun, hown.congr (fun i hi => absurd hi (by omega)), Below.refl _ _⟩
 ·obtain ⟨ad, rfl, _⟩ := hr (Nat.mul_pos (by omega) hk)
  obtain ⟨A', c', w', h2, h3, h4, _⟩ := zl3 (P := P) w base t ty e i z k bytes ht hi hz hsize hby hzs hk (cm := cm) (OwnZ.nil w base e k g) hr h1 (by rw [Nat.zero_add]; exact hbytes) hbase
  refine ⟨A', c', w', ?_, ?_, ⟨h4.os, h4.tape, h4.output, h4.size, fun k hk => h4.block k hk (by simp)⟩⟩
  ·rw [zrz w ht hi hz hsize hk b ad m cm B g hr (by omega) (by rw [hby]; exact hbytes), h2, Nat.zero_add]
  ·rw [Nat.zero_add] at h3
   exact h3.congr (fun i _ => by simp [catF])
theorem infoZ {e : TypeId} {z : Value} {k bytes : Nat} (hinfo : (P.info? e).map (fun i => (i.zero, i.size, i.bytes)) = some (some z, k, bytes)) : ∃ i, P.info? e = some i ∧ i.zero = some z ∧ i.size = k ∧ i.bytes = bytes := by
 cases hq : P.info? e with
 | none => rw [hq] at hinfo; simp at hinfo
 | some i => rw [hq] at hinfo; simp at hinfo; exact ⟨i, rfl, hinfo.1, hinfo.2.1, hinfo.2.2⟩
theorem zdi {ops : Array Oper} {rest : List Oper} {o : Oper} {a : Act} {w w0 : World} {Q : Exit → Act → World → Prop} {rows : List RowSpec} (hgd : o.guard = none) {t e : TypeId} (z : Nat) (ho : o.op = .buildSlice t 0 #[]) (hr : ∀ w : World, (Instr.buildSlice t 0 #[]).run P w = .ok (.slice (some ⟨w.heap.size, 0, none⟩) 0 0) (w.alloc (.cells #[] e))) (h : HS w0 w rows)
    (hK : ∀ b w', w0.heap.size ≤ b → HS w0 w' rows → OwnZ w' w.heap.size e z (some ⟨b, 0, none⟩) 0 0 (fun _ => undef) → wpList P ops Q rest (a.put o.dst (.slice (some ⟨b, 0, none⟩) 0 0)) w') : wpList P ops Q (o :: rest) a w :=
 wpList_plain hgd fun _ hK' => by
  unfold Oper.wp execOp
  rw [ho]
  simp only [List.map_toArray, List.map_nil, Sem.run_bind, hr w, Result.andThen_ok, Sem.run_pure]
  exact hK' _ _ (hK _ _ h.size (h.below ((Below.refl _ _).alloc lR _)) (OwnZ.new0 w w.heap.size e z _ lR))
theorem zc9 {ops : Array Oper} {rest : List Oper} {o : Oper} {a : Act} {w w0 : World} {Q : Exit → Act → World → Prop} {rows : List RowSpec} (hgd : o.guard = none) (s x : Operand) (t base : Nat) {e : TypeId} {z : Value} {k bytes : Nat}
    (hinfo : (P.info? e).map (fun i => (i.zero, i.size, i.bytes)) = some (some z, k, bytes)) (ht : P.underlying t = some (.slice e)) (hzs : z.cells.size = k) (hk : 0 < k)
    (ho : o.op = .call { callee := .builtin .append, args := #[s, x], argTypes := #[t, t] }) {b : Addr} {f : Nat → Value} (hs : a.eval s = .slice (some b) 0 0) (hown : OwnZ w base e k (some b) 0 0 f)
    {C : Option Addr} {m cm B : Nat} {g : Nat → Value} (hx : a.eval x = .slice C m cm) (hr : Rd w B C (m * k) g) (h1 : ∀ i, i < m * k → (g i).oneCell' = true) (hbytes : m ≤ 9223372036854775807 ∧ m * bytes ≤ 140737488355328) (hbase : base ≤ w.heap.size) (h : HS w0 w rows)
    (hK : ∀ A' c' w', OwnZ w' base e k A' m c' g → HS w0 w' rows → wpList P ops Q rest (a.put o.dst (.slice A' m c')) w') : wpList P ops Q (o :: rest) a w :=
 wpList_plain hgd fun _ hK' => by
  obtain ⟨i, hi, hz, hsize, hby⟩ := infoZ hinfo
  obtain ⟨A', c', w', hrun, h5, h6⟩ := zp3 (P := P) w base (ty := o.type) ht hi hz hsize hk hby hzs (cm := cm) hown hr h1 hbytes hbase
  unfold Oper.wp execOp
  simp only [ho, resolve, invoke, builtin, Sem.run_bind, Sem.run_pure, Result.andThen_ok, List.map_toArray, List.map_cons, List.map_nil, hs, hx]
  rw [hrun]
  exact hK' _ _ (hK _ _ _ h5 (h.below h6))
end
section
variable {P : Program} {ops : Array Oper} {B : Nat} {w0 : World} {o : Oper} {lk : Tmp → SF} {ty rt : TypeId}
theorem zkv {t e : TypeId} {z : Nat} (ht : P.underlying t = some (.slice e)) (hz : (P.info? e).map (·.size) = some z) (hlen : z ≤ 16777216) (h0 : 0 < z) {v0 : Value} (hzero : (P.info? e).bind (·.zero) = some v0)
    {x : Operand} (hg : o.guard = none) (hop : o.op = .buildSlice t 1 #[(0, x)]) (f : Nat → Value) (hx : OpK lk x (.agg (arr z f))) : opOb P ops B w0 o (SF.rdZ 1 z f) lk :=
 zew hg fun a w hbel hf => by
  have h1 := hx.eval hf (by rw [hop]; simp [Op.operands])
  have hr := zkh (P := P) w (t := t) (len := 1) ht hz (by omega) (by omega) hzero #[(0, .agg (arr z f))] f (fun g => by
   rw [show (#[((0 : Nat), Value.agg (arr z f))] : Array (Nat × Value)).toList = [(0, .agg (arr z f))] from rfl, zhq z (1 * z) 0 f g [] (by omega)]
   show some _ = some _
   exact congrArg some (zca fun i hi => by rw [if_pos (by omega)]; simp))
  rw [Nat.one_mul] at hr
  have hrun : (execOp a.eval o).run P w = .ok (.value (.slice (some ⟨w.heap.size, 0, none⟩) 1 1)) (w.alloc (.cells (arr z f) e)) := by
   unfold execOp
   rw [hop]
   simp only [List.map_toArray, List.map_cons, List.map_nil, h1]
   simp [hr]
  have h2 := (HS.nil w).alloc (arr z f) e z f (zam _ _) (fun i hi => zaq _ _ i hi)
  unfold Oper.wp
  rw [hrun]
  exact ⟨_, rfl, ⟨_, _, rfl, by rw [Nat.one_mul]; exact Rd.of_row (h2.row 0 rfl) lR (h2.lt 0 rfl)⟩, h2.out (by simp)⟩
end
namespace TreeZeros
theorem zdz (vs : Array Value) (w : World) : (callFunc 91 vs).run Tryd.prog w = .ok (.enter 91 vs) w := by kernel_rfl
theorem sub1 (m : Nat) (h : 1 ≤ m) (hm : m ≤ 9223372036854775807) (w : World) : (binOp .sub 3 (.int .i64 (m : Int)) (.int .i64 1)).run Tryd.prog w = .ok (.int .i64 ((m - 1 : Nat) : Int)) w := by
 rw [show ((m - 1 : Nat) : Int) = (m : Int) - 1 by omega]
 simp [go_sem, IntKind.wrap, IntKind.bits, IntKind.signed]
 omega
theorem zxe {m : Nat} : ∀ i, i < (m + 1) * 32 → catF (m * 32) (u8v zrL) (u8v (zrN m)) i = u8v zrL i := fun i hi => by
 simp only [catF, u8v]
 split
 ·rfl
 ·rename_i h
  have := zed m (i - m * 32) (by omega)
  rw [show m * 32 + (i - m * 32) = i by omega] at this
  rw [this]
end TreeZeros
open TreeZeros in
theorem zp4 (d : Nat) (hd : d ≤ 40) (w : World) (hp : RefPkg w) :
 Calls Tryd.prog 101 #[.int .i64 (d : Int)] w fun e w' => ∃ A c, e = .returned (.slice A (d + 1) c) ∧ OwnZ w' w.heap.size 24 32 A (d + 1) c (u8v zrL) ∧ Below w.heap.size w w' := by
 have HP := Hd hp
 have HS0 := Hd (HS.nil w)
 clear hp
 go_enter Tryd.func101, Tryd.ntmps101
 go_wp2_with (first
  | (refine zbx rfl 24 #[] rfl [] rfl (arr 32 (u8v fun _ => 0)) (by kernel_rfl) ?_)
  | (refine zbu rfl Ty32 s24 (by omega) (by omega) z24 _ rfl (u8v fun _ => 0) rfl HS0.out ?_; intro b5 w5 hb5 hc5 hs5; have HS5 := Hd hs5; clear hs5))
 go_loopw [3] (fun v wr => ∃ (m : Nat) (A : Option Addr) (c : Nat), v = .slice A m c ∧ 1 ≤ m ∧ m ≤ d + 1 ∧ OwnZ wr w.heap.size 24 32 A m c (u8v zrL) ∧ Below w.heap.size w wr) (fun v _ => match v with | .slice _ m _ => 100 - m | _ => 0)
 case atStart => exact ⟨1, some ⟨b5, 0, none⟩, 1, rfl, by omega, by omega, (OwnZ.of_row (m := 1) (HS5.out.row 0 rfl) hb5 (by unfold maxLen; omega)).congr (fun i hi => by rw [← Nat.zero_add i]; have := zed 0 i (by omega); simp only [u8v]; rw [show 0 + i = 0 * 32 + i by omega, this]; rfl), HS5.out.out (by simp; omega)⟩
 case round =>
  obtain ⟨m, A, c, rfl, hm1, hm, ho, hbw⟩ := hrel
  have HO := Hd ho
  have HW := Hd hbw
  have hsz := hbw.size
  clear ho hbw
  by_cases hmd : m ≤ d
  ·obtain ⟨ad, hA, _, _⟩ := HO.out.rd (show 0 < m * 32 by omega)
   subst hA
   have HCL : Hid (∀ w', Below wr.heap.size wr w' → ∀ i, i < m * 32 → w'.cell? (ad.add i) = some (u8v zrL i)) := Hd (fun w' hb i hi => (HO.out.rd.below hb).cells hi)
   have HZ := Hd (show Ending.returned (rootV (shaB (catN 32 (zrN (m - 1)) (zrN (m - 1))) 64)) = .returned (rootV (zrN m)) by obtain ⟨q, rfl⟩ : ∃ q, m = q + 1 := ⟨m - 1, by omega⟩; rfl)
   go_wp2_with fail
   refine zao (l := [_, _, _, _, _, _, _, _, _, _, _, _, _, _, _]) (tl := [_]) (B := wr.heap.size) (w0 := wr) [sI (.slice (some ad) (m) (c)), sI (.slice (some ad) (m) (c)), sI (.slice (some ad) (m) (c)), sI (.int .i64 ((m : Nat) : Int)), sI (.int .i64 ((m - 1 : Nat) : Int)), sI (.pointer (some (ad.add ((m - 1) * 32)))), sI (rootV (zrN (m - 1))), sI (.slice (some ad) (m) (c)), sI (.slice (some ad) (m) (c)), sI (.int .i64 ((m : Nat) : Int)), sI (.int .i64 ((m - 1 : Nat) : Int)), sI (.pointer (some (ad.add ((m - 1) * 32)))), sI (rootV (zrN (m - 1))), sI (rootV (zrN m)), SF.rdZ 1 32 (u8v (zrN m))] (by kernel_rfl) (by kernel_rfl) rfl lR (Below.refl _ _) ⟨?_, ?_, ?_, ?_, ?_, ?_, ?_, ?_, ?_, ?_, ?_, ?_, ?_, ?_, ?_, trivial⟩ ?_
   ·exact (zaa _ rfl (.inl rfl) rfl)
   ·exact (zaa _ rfl (.inl rfl) rfl)
   ·exact (zaa _ rfl (.inl rfl) rfl)
   ·exact zcw Ty32 rfl rfl (oT rfl)
   ·exact za0 rfl rfl rfl (oT rfl) OpK.const (fun w => sub1 m (by omega) (by omega) w)
   ·exact zak rfl rfl (oT rfl) (oT rfl) (fun w => zaw w Ty32 (by kernel_rfl) ad (by omega))
   ·exact zad rfl rfl (oT rfl) (fun w' hb => zbd w' (ad.add ((m - 1) * 32)) 32 _ _ (u8v (zrN (m - 1))) (fun i hi => by rw [zb1, HCL.out w' hb ((m - 1) * 32 + i) (by omega)]; simp only [u8v]; rw [zed _ _ hi]) Ty24 rfl s24)
   ·exact (zaa _ rfl (.inl rfl) rfl)
   ·exact (zaa _ rfl (.inl rfl) rfl)
   ·exact zcw Ty32 rfl rfl (oT rfl)
   ·exact za0 rfl rfl rfl (oT rfl) OpK.const (fun w => sub1 m (by omega) (by omega) w)
   ·exact zak rfl rfl (oT rfl) (oT rfl) (fun w => zaw w Ty32 (by kernel_rfl) ad (by omega))
   ·exact zad rfl rfl (oT rfl) (fun w' hb => zbd w' (ad.add ((m - 1) * 32)) 32 _ _ (u8v (zrN (m - 1))) (fun i hi => by rw [zb1, HCL.out w' hb ((m - 1) * 32 + i) (by omega)]; simp only [u8v]; rw [zed _ _ hi]) Ty24 rfl s24)
   ·exact zbi zdz rfl rfl (oT rfl) (oT rfl) (fun w' hb => (zfs (zrN (m - 1)) (zrN (m - 1)) (zfg _) (zfg _) w' (HP.out.below (HW.out.trans (hb.mono HW.out.size)))).mono fun e w'' ⟨he, hb2⟩ => ⟨_, he.trans HZ.out, rfl, hb2⟩)
   ·exact zkv Ty32 s24 (by omega) (by omega) z24 rfl rfl (u8v (zrN m)) (oT rfl)
   ·intro w' hb
    simp only [fin, sI, SF.rdZ, forall_eq]
    simp only [pcX]
    rintro _ ⟨A24, c24, rfl, hr24⟩
    have hw' := HW.out.trans (hb.mono HW.out.size)
    have ho' := HO.out.all hb
    refine zdy w' (.tmp 10) (.tmp 24) 32 w.heap.size i24 Ty32 (by rfl) (by omega) rfl (m + 1) (u8v zrL) rfl rfl ho' hr24 (fun _ _ => rfl) rfl zxe ⟨by omega, by omega⟩ hw'.size ?_
    intro A25 c25 w25 ho25 hg25 _
    have HB := Hd (za4 hw' hg25 hw'.size (fun ad e => (HO.out.base_le ad e).1))
    have HO2 := Hd ho25
    clear ho25 hg25 hr24 ho' hw' hb
    refine zpn (.slice A25 (m + 1) c25) (.inl rfl) rfl ?_
    simp only [seqWp, Act.put, List.setIfInBounds_toArray, List.set_cons_succ, List.set_cons_zero]
    go_wp2_with fail
    go_roundw
    case rel => exact ⟨m + 1, A25, c25, rfl, by omega, by omega, HO2.out, HB.out⟩
    case measure => show 100 - (m + 1) < 100 - m; omega
  ·obtain rfl : m = d + 1 := by omega
   go_wp2_with fail
   go_ret
   exact ⟨A, c, rfl, HO.out, HW.out⟩
section
variable {P : Program}
theorem zr0 {t e : TypeId} {z : Nat} (hu : P.underlying t = some (.slice e)) (hz : (P.info? e).map (·.size) = some z) (_hz0 : 0 < z) (A : Option Addr) (n c l h : Nat) (low high : Option Value)
    (hl : low = none ∧ l = 0 ∨ low = some (.int .i64 (l : Int))) (hh : high = none ∧ h = n ∨ high = some (.int .i64 (h : Int))) (hlh : l ≤ h) (hn : h ≤ n) (hnc : n ≤ c) :
    ∃ A', (∀ w, (Instr.sliceAt t (.slice A n c) low high none).run P w = .ok (.slice A' (h - l) (c - l)) w) ∧ ∀ w B f, Rd w B A (h * z) f → Rd w B A' ((h - l) * z) (fun i => f (l * z + i)) := by
 have b1 : ∀ (y : Nat) (k : BoundsCode) (w : World), l ≤ y → (Instr.sliceBound (.int .i64 (l : Int)) y k).run P w = .ok l w := fun y k w hy => by
  rw [run_sliceBound w .i64 (l : Int) y k (by omega) (by omega)]; simp
 have b2 : ∀ (y : Nat) (k : BoundsCode) (w : World), h ≤ y → (Instr.sliceBound (.int .i64 (h : Int)) y k).run P w = .ok h w := fun y k w hy => by
  rw [run_sliceBound w .i64 (h : Int) y k (by omega) (by omega)]; simp
 refine ⟨if c = l then A else A.map (·.add (l * z)), fun w => ?_, fun w B f hr => ?_⟩
 ·have hs := zcm hz
  have h9 : h ≤ c := by omega
  rcases hl with ⟨rfl, rfl⟩ | rfl <;> rcases hh with ⟨rfl, rfl⟩ | rfl <;>
    simp [Instr.sliceAt, Instr.slice, run_underlying hu, Instr.sliceBounds, b1, b2, hlh, h9, hs, zfd] <;> simp_all
 ·intro h0
  have hpos : 0 < h - l := by
   rcases Nat.eq_zero_or_pos (h - l) with e | e
   ·rw [e] at h0; simp at h0
   ·exact e
  have e1 : (h - l) * z + l * z = h * z := by rw [← Nat.add_mul]; congr 1; omega
  obtain ⟨ad, rfl, hb, hc⟩ := hr (by omega)
  rw [if_neg (by omega)]
  refine ⟨ad.add (l * z), rfl, by rw [za7]; exact hb, fun i hi => ?_⟩
  rw [zfo]
  exact hc (l * z + i) (by omega)
theorem zkw {t e : TypeId} {z : Nat} (hu : P.underlying t = some (.slice e)) (hz : (P.info? e).map (·.size) = some z) (hz0 : 0 < z) (A : Option Addr) (n c k : Nat) (hk : k ≤ n) (hnc : n ≤ c) :
 ∃ A', (∀ w, (Instr.sliceAt t (.slice A n c) (some (.int .i64 (k : Int))) none none).run P w = .ok (.slice A' (n - k) (c - k)) w) ∧ ∀ w B f, Rd w B A (n * z) f → Rd w B A' ((n - k) * z) (fun i => f (k * z + i)) :=
 zr0 hu hz hz0 A n c k n _ _ (.inr rfl) (.inl ⟨rfl, rfl⟩) hk lR hnc
theorem zki {t e : TypeId} {z : Nat} (hu : P.underlying t = some (.slice e)) (hz : (P.info? e).map (·.size) = some z) (A : Option Addr) (n c h : Nat) (hh : h ≤ c) (w : World) :
 (Instr.sliceAt t (.slice A n c) none (some (.int .i64 (h : Int))) none).run P w = .ok (.slice A h c) w := by
 have b2 : (Instr.sliceBound (.int .i64 (h : Int)) c .sliceAcap).run P w = .ok h w := by
  rw [run_sliceBound w .i64 (h : Int) c _ (by omega) (by omega)]; simp
 simp [Instr.sliceAt, Instr.slice, run_underlying hu, Instr.sliceBounds, b2, zcm hz, zfd]
end
def treeN : Nat → Nat → (Nat → Nat) → Nat → Nat
  | 0, n, x => if n = 0 then zrN 0 else x
  | d + 1, n, x => if n = 0 then zrN (d + 1) else shaB (catN 32 (treeN d (min (2 ^ d) n) x) (treeN d (n - min (2 ^ d) n) (fun i => x (min (2 ^ d) n * 32 + i)))) 64
theorem za9 {x : Nat → Nat} (hx : ∀ i, x i < 256) (d n : Nat) : ∀ i, treeN d n x i < 256 := by
 intro i
 cases d with
 | zero => unfold treeN; split; exact zfg _ _; exact hx _
 | succ d => unfold treeN; split; exact zfg _ _; exact zfx _ _ _
theorem zft (d : Nat) (x : Nat → Nat) : treeN d 0 x = zrN d := by cases d <;> rfl
theorem zoo (n : Nat) (x : Nat → Nat) (hn : n ≠ 0) : treeN 0 n x = x := by unfold treeN; rw [if_neg hn]
theorem zg7 (d n h : Nat) (x : Nat → Nat) (hn : n ≠ 0) (hh : min (2 ^ d) n = h) : treeN (d + 1) n x = shaB (catN 32 (treeN d h x) (treeN d (n - h) (fun i => x (h * 32 + i)))) 64 := by
 subst hh
 rw [treeN, if_neg hn]
theorem subd (d : Nat) (hd : d ≤ 1000) (w : World) : (binOp .sub 3 (.int .i64 ((d + 1 : Nat) : Int)) (.int .i64 1)).run Tryd.prog w = .ok (.int .i64 (d : Int)) w := by
 have := TreeZeros.sub1 (d + 1) (by omega) (by omega) w
 rw [show d + 1 - 1 = d by omega] at this
 exact this
namespace TreeTree
theorem zg8 (vs : Array Value) (w : World) : (callFunc 99 vs).run Tryd.prog w = .ok (.enter 99 vs) w := by kernel_rfl
theorem zdz (vs : Array Value) (w : World) : (callFunc 91 vs).run Tryd.prog w = .ok (.enter 91 vs) w := by kernel_rfl
end TreeTree
open TreeTree in
theorem zr1 : ∀ (d n c : Nat) (A : Option Addr) (x : Nat → Nat) (m cz : Nat) (Z : Option Addr) (w : World), d < m → d ≤ 40 → n ≤ c → Rd w w.heap.size A (n * 32) (u8v x) → (∀ i, x i < 256) → Rd w w.heap.size Z (m * 32) (u8v zrL) → n ≤ 4611686018427387904 → RefPkg w →
 Calls Tryd.prog 99 #[.slice A n c, .int .i64 (d : Int), .slice Z m cz] w fun e w' => e = .returned (rootV (treeN d n x)) ∧ Below w.heap.size w w' := by
 intro d
 induction d with
 | zero =>
  intro n c A x m cz Z w hdm _ hnc hb hx hz hn hp
  have HX := Hd hb
  have HS0 := Hd (HS.nil w)
  by_cases hn0 : n = 0
  ·subst hn0
   obtain ⟨ad, hZ, _, _⟩ := hz (by omega)
   subst hZ
   have HZ := Hd hz
   clear hb hx hz hp
   go_enter Tryd.func99, Tryd.ntmps99
   go_wp2_with (first
    | (refine zac rfl 24 6 rfl rfl HS0.out _ z24 32 (u8v fun _ => 0) n24 f24 ?_; intro b6 w6 hb6 hc6 hs6; have HS6 := Hd hs6; clear hs6)
    | (refine zae rfl 24 _ rfl 32 _ Ty24 rfl s24 (ad.add (0 * 32)) rfl (u8v (zrN 0)) (fun q hq => by rw [zb1]; exact ((HZ.out.below (HS6.out.out (by simp; omega))).cells (by omega)).trans (congrArg some (by simp only [u8v]; rw [zed 0 q hq]))) ?_)
    | (refine zaf rfl 24 (.tmp 6) (.tmp 14) rfl HS6.out 0 rfl (u8v (zrN 0)) rfl rfl (by kernel_rfl) (fun _ _ => rfl) ?_; intro wy hs; have HY := Hd hs; clear hs))
   exact za5 rfl (HY.out.row 0 rfl) _ rfl Ty24 rfl s24 rfl ⟨by rw [zft], HY.out.out (by simp; omega)⟩
  ·obtain ⟨ad, hA, _, _⟩ := hb (by omega)
   subst hA
   clear hb hx hz hp
   go_enter Tryd.func99, Tryd.ntmps99
   go_wp2_with (first
    | (refine zac rfl 24 6 rfl rfl HS0.out _ z24 32 (u8v fun _ => 0) n24 f24 ?_; intro b6 w6 hb6 hc6 hs6; have HS6 := Hd hs6; clear hs6)
    | (refine zae rfl 24 _ rfl 32 _ Ty24 rfl s24 (ad.add (0)) rfl (u8v x) (fun q hq => by rw [zb1]; exact ((HX.out.below (HS6.out.out (by simp; omega))).cells (by omega)).trans (congrArg some (by rw [Nat.zero_add]))) ?_)
    | (refine zaf rfl 24 (.tmp 6) (.tmp 19) rfl HS6.out 0 rfl (u8v x) rfl rfl (by kernel_rfl) (fun _ _ => rfl) ?_; intro wy hs; have HY := Hd hs; clear hs))
   exact za5 rfl (HY.out.row 0 rfl) _ rfl Ty24 rfl s24 rfl ⟨by rw [zoo n x hn0], HY.out.out (by simp; omega)⟩
 | succ d ih =>
  intro n c A x m cz Z w hdm hd40 hnc hb hx hz hn hp
  have HP := Hd hp
  have HX := Hd hb
  have HXl := Hd hx
  have HZ := Hd hz
  have HS0 := Hd (HS.nil w)
  by_cases hn0 : n = 0
  ·subst hn0
   obtain ⟨ad, hZ, _, _⟩ := hz (by omega)
   subst hZ
   clear hb hx hz hp ih
   go_enter Tryd.func99, Tryd.ntmps99
   go_wp2_with (first
    | (refine zac rfl 24 6 rfl rfl HS0.out _ z24 32 (u8v fun _ => 0) n24 f24 ?_; intro b6 w6 hb6 hc6 hs6; have HS6 := Hd hs6; clear hs6)
    | (refine zae rfl 24 _ rfl 32 _ Ty24 rfl s24 (ad.add ((d + 1) * 32)) rfl (u8v (zrN (d + 1))) (fun q hq => by rw [zb1]; exact ((HZ.out.below (HS6.out.out (by simp; omega))).cells (by omega)).trans (congrArg some (by simp only [u8v]; rw [zed (d + 1) q hq]))) ?_)
    | (refine zaf rfl 24 (.tmp 6) (.tmp 14) rfl HS6.out 0 rfl (u8v (zrN (d + 1))) rfl rfl (by kernel_rfl) (fun _ _ => rfl) ?_; intro wy hs; have HY := Hd hs; clear hs))
   exact za5 rfl (HY.out.row 0 rfl) _ rfl Ty24 rfl s24 rfl ⟨by rw [zft], HY.out.out (by simp; omega)⟩
  ·obtain ⟨p, hp2⟩ : ∃ p, p = 2 ^ d := ⟨_, rfl⟩
   have HPw := Hd hp2
   by_cases hpn : p ≤ n
   ·have hmin : min (2 ^ d) n = p := by omega
    clear hb hx hz hp hp2
    go_enter Tryd.func99, Tryd.ntmps99
    have hh : p ≤ n := by omega
    obtain ⟨A2, hct⟩ := zkw (P := Tryd.prog) Ty32 (z := 32) (by kernel_rfl) (by omega) A n c p hh hnc
    have HCt := Hd hct
    clear hct
    go_wp2_with (first
     | (refine zac rfl 24 6 rfl rfl HS0.out _ z24 32 (u8v fun _ => 0) n24 f24 ?_; intro b6 w6 hb6 hc6 hs6; have HS6 := Hd hs6; clear hs6)
     | (refine zab rfl 21 rfl (.int .i64 (d : Int)) ?_ ?_; (· exact za1 rfl rfl rfl rfl (fun w => subd d (by omega) w) _))
     | (refine zab rfl 23 rfl (.int .i64 (p : Int)) ?_ ?_; (· rw [HPw.out]; exact za1 rfl rfl rfl rfl (fun w => TreeRef.shl1 d (by omega) w) _)))
    have HW6 := Hd (HS6.out.out (by simp; omega))
    refine zao (l := [_, _, _, _, _, _, _, _, _, _, _, _, _, _, _]) (tl := []) (B := w6.heap.size) (w0 := w6) [sI (.slice (A) (n) (c)), sI (.int .i64 ((p : Nat) : Int)), sI (.slice (A) (p) (c)), sI (.int .i64 ((d + 1 : Nat) : Int)), sI (.int .i64 ((d : Nat) : Int)), sI (.slice (Z) (m) (cz)), sI (rootV (treeN d p x)), sI (.slice (A) (n) (c)), sI (.int .i64 ((p : Nat) : Int)), sI (.slice (A2) (n - p) (c - p)), sI (.int .i64 ((d + 1 : Nat) : Int)), sI (.int .i64 ((d : Nat) : Int)), sI (.slice (Z) (m) (cz)), sI (rootV (treeN d (n - p) (fun i => x (p * 32 + i)))), sI (rootV (shaB (catN 32 (treeN d p x) (treeN d (n - p) (fun i => x (p * 32 + i)))) 64))] (by kernel_rfl) (by kernel_rfl) rfl lR (Below.refl _ _) ⟨?_, ?_, ?_, ?_, ?_, ?_, ?_, ?_, ?_, ?_, ?_, ?_, ?_, ?_, ?_, trivial⟩ ?_
    ·exact (zaa _ rfl (.inl rfl) rfl)
    ·exact (zaa _ rfl (.inl rfl) rfl)
    ·exact zbe rfl rfl (oT rfl) OpKo.no (OpKo.tmp rfl) (fun w => zki (z := 32) Ty32 (by kernel_rfl) A n c p (by omega) w)
    ·exact (zaa _ rfl (.inl rfl) rfl)
    ·exact za0 rfl rfl rfl (oT rfl) OpK.const (fun w => subd d (by omega) w)
    ·exact (zaa _ rfl (.inl rfl) rfl)
    ·exact zg2 zg8 rfl rfl (oT rfl) (oT rfl) (oT rfl) (fun w' hb => (ih p c A x m cz Z w' (by omega) (by omega) (by omega) (((HX.out.below (HW6.out.trans (hb.mono HW6.out.size))).more (lT HW6.out.size hb.size)).short (by omega)) (fun i => HXl.out _) ((HZ.out.below (HW6.out.trans (hb.mono HW6.out.size))).more (lT HW6.out.size hb.size)) (by omega) (HP.out.below (HW6.out.trans (hb.mono HW6.out.size)))).mono fun e w'' ⟨he, hb2⟩ => ⟨_, he, rfl, hb2⟩)
    ·exact (zaa _ rfl (.inl rfl) rfl)
    ·exact (zaa _ rfl (.inl rfl) rfl)
    ·exact zbe rfl rfl (oT rfl) (OpKo.tmp rfl) OpKo.no (fun w => HCt.out.1 w)
    ·exact (zaa _ rfl (.inl rfl) rfl)
    ·exact za0 rfl rfl rfl (oT rfl) OpK.const (fun w => subd d (by omega) w)
    ·exact (zaa _ rfl (.inl rfl) rfl)
    ·exact zg2 zg8 rfl rfl (oT rfl) (oT rfl) (oT rfl) (fun w' hb => (ih (n - p) (c - p) A2 (fun i => x (p * 32 + i)) m cz Z w' (by omega) (by omega) (by omega) (HCt.out.2 w' _ (u8v x) ((HX.out.below (HW6.out.trans (hb.mono HW6.out.size))).more (lT HW6.out.size hb.size))) (fun i => HXl.out _) ((HZ.out.below (HW6.out.trans (hb.mono HW6.out.size))).more (lT HW6.out.size hb.size)) (by omega) (HP.out.below (HW6.out.trans (hb.mono HW6.out.size)))).mono fun e w'' ⟨he, hb2⟩ => ⟨_, he, rfl, hb2⟩)
    ·exact zbi zdz rfl rfl (oT rfl) (oT rfl) (fun w' hb => (zfs (treeN d p x) (treeN d (n - p) (fun i => x (p * 32 + i))) (za9 HXl.out _ _) (za9 (fun i => HXl.out _) _ _) w' (HP.out.below (HW6.out.trans (hb.mono HW6.out.size)))).mono fun e w'' ⟨he, hb2⟩ => ⟨_, he, rfl, hb2⟩)
    ·intro w' hb
     simp only [fin, sI, forall_eq]
     simp only [pcX]
     have hs := HS6.out.below hb
     refine zga 24 (.tmp 6) (.tmp 44) rfl hs 0 rfl (u8v (shaB (catN 32 (treeN d p x) (treeN d (n - p) (fun i => x (p * 32 + i)))) 64)) rfl rfl (by kernel_rfl) (fun _ _ => rfl) ?_
     clear hs hb
     intro wy hs
     have HY := Hd hs
     clear hs
     simp only [seqWp]
     go_wp2_with fail
     exact za5 rfl (HY.out.row 0 rfl) _ rfl Ty24 rfl s24 rfl ⟨by rw [zg7 d n p x hn0 hmin], HY.out.out (by simp; omega)⟩
   ·have hmin : min (2 ^ d) n = n := by omega
    clear hb hx hz hp hp2
    go_enter Tryd.func99, Tryd.ntmps99
    have hh : n ≤ n := by omega
    obtain ⟨A2, hct⟩ := zkw (P := Tryd.prog) Ty32 (z := 32) (by kernel_rfl) (by omega) A n c n hh hnc
    have HCt := Hd hct
    clear hct
    go_wp2_with (first
     | (refine zac rfl 24 6 rfl rfl HS0.out _ z24 32 (u8v fun _ => 0) n24 f24 ?_; intro b6 w6 hb6 hc6 hs6; have HS6 := Hd hs6; clear hs6)
     | (refine zab rfl 21 rfl (.int .i64 (d : Int)) ?_ ?_; (· exact za1 rfl rfl rfl rfl (fun w => subd d (by omega) w) _))
     | (refine zab rfl 23 rfl (.int .i64 (p : Int)) ?_ ?_; (· rw [HPw.out]; exact za1 rfl rfl rfl rfl (fun w => TreeRef.shl1 d (by omega) w) _)))
    have HW6 := Hd (HS6.out.out (by simp; omega))
    refine zao (l := [_, _, _, _, _, _, _, _, _, _, _, _, _, _, _]) (tl := []) (B := w6.heap.size) (w0 := w6) [sI (.slice (A) (n) (c)), sI (.int .i64 ((n : Nat) : Int)), sI (.slice (A) (n) (c)), sI (.int .i64 ((d + 1 : Nat) : Int)), sI (.int .i64 ((d : Nat) : Int)), sI (.slice (Z) (m) (cz)), sI (rootV (treeN d n x)), sI (.slice (A) (n) (c)), sI (.int .i64 ((n : Nat) : Int)), sI (.slice (A2) (n - n) (c - n)), sI (.int .i64 ((d + 1 : Nat) : Int)), sI (.int .i64 ((d : Nat) : Int)), sI (.slice (Z) (m) (cz)), sI (rootV (treeN d (n - n) (fun i => x (n * 32 + i)))), sI (rootV (shaB (catN 32 (treeN d n x) (treeN d (n - n) (fun i => x (n * 32 + i)))) 64))] (by kernel_rfl) (by kernel_rfl) rfl lR (Below.refl _ _) ⟨?_, ?_, ?_, ?_, ?_, ?_, ?_, ?_, ?_, ?_, ?_, ?_, ?_, ?_, ?_, trivial⟩ ?_
    ·exact (zaa _ rfl (.inl rfl) rfl)
    ·exact (zaa _ rfl (.inl rfl) rfl)
    ·exact zbe rfl rfl (oT rfl) OpKo.no (OpKo.tmp rfl) (fun w => zki (z := 32) Ty32 (by kernel_rfl) A n c n (by omega) w)
    ·exact (zaa _ rfl (.inl rfl) rfl)
    ·exact za0 rfl rfl rfl (oT rfl) OpK.const (fun w => subd d (by omega) w)
    ·exact (zaa _ rfl (.inl rfl) rfl)
    ·exact zg2 zg8 rfl rfl (oT rfl) (oT rfl) (oT rfl) (fun w' hb => (ih n c A x m cz Z w' (by omega) (by omega) (by omega) (((HX.out.below (HW6.out.trans (hb.mono HW6.out.size))).more (lT HW6.out.size hb.size)).short (by omega)) (fun i => HXl.out _) ((HZ.out.below (HW6.out.trans (hb.mono HW6.out.size))).more (lT HW6.out.size hb.size)) (by omega) (HP.out.below (HW6.out.trans (hb.mono HW6.out.size)))).mono fun e w'' ⟨he, hb2⟩ => ⟨_, he, rfl, hb2⟩)
    ·exact (zaa _ rfl (.inl rfl) rfl)
    ·exact (zaa _ rfl (.inl rfl) rfl)
    ·exact zbe rfl rfl (oT rfl) (OpKo.tmp rfl) OpKo.no (fun w => HCt.out.1 w)
    ·exact (zaa _ rfl (.inl rfl) rfl)
    ·exact za0 rfl rfl rfl (oT rfl) OpK.const (fun w => subd d (by omega) w)
    ·exact (zaa _ rfl (.inl rfl) rfl)
    ·exact zg2 zg8 rfl rfl (oT rfl) (oT rfl) (oT rfl) (fun w' hb => (ih (n - n) (c - n) A2 (fun i => x (n * 32 + i)) m cz Z w' (by omega) (by omega) (by omega) (HCt.out.2 w' _ (u8v x) ((HX.out.below (HW6.out.trans (hb.mono HW6.out.size))).more (lT HW6.out.size hb.size))) (fun i => HXl.out _) ((HZ.out.below (HW6.out.trans (hb.mono HW6.out.size))).more (lT HW6.out.size hb.size)) (by omega) (HP.out.below (HW6.out.trans (hb.mono HW6.out.size)))).mono fun e w'' ⟨he, hb2⟩ => ⟨_, he, rfl, hb2⟩)
    ·exact zbi zdz rfl rfl (oT rfl) (oT rfl) (fun w' hb => (zfs (treeN d n x) (treeN d (n - n) (fun i => x (n * 32 + i))) (za9 HXl.out _ _) (za9 (fun i => HXl.out _) _ _) w' (HP.out.below (HW6.out.trans (hb.mono HW6.out.size)))).mono fun e w'' ⟨he, hb2⟩ => ⟨_, he, rfl, hb2⟩)
    ·intro w' hb
     simp only [fin, sI, forall_eq]
     simp only [pcX]
     have hs := HS6.out.below hb
     refine zga 24 (.tmp 6) (.tmp 44) rfl hs 0 rfl (u8v (shaB (catN 32 (treeN d n x) (treeN d (n - n) (fun i => x (n * 32 + i)))) 64)) rfl rfl (by kernel_rfl) (fun _ _ => rfl) ?_
     clear hs hb
     intro wy hs
     have HY := Hd hs
     clear hs
     simp only [seqWp]
     go_wp2_with fail
     exact za5 rfl (HY.out.row 0 rfl) _ rfl Ty24 rfl s24 rfl ⟨by rw [zg7 d n n x hn0 hmin], HY.out.out (by simp; omega)⟩
end Go.Proofs.YtomilckcgmhfcaaDoor
namespace Go.Proofs.YtomilckcgmhfcaaDoor
set_option maxRecDepth 40000
set_option maxHeartbeats 64000000
def fullN : Nat → (Nat → Nat) → Nat → Nat
  | 0, x => x
  | d + 1, x => shaB (catN 32 (fullN d x) (fullN d (fun i => x (2 ^ d * 32 + i)))) 64
theorem zen (d : Nat) (x : Nat → Nat) : fullN (d + 1) x = shaB (catN 32 (fullN d x) (fullN d (fun i => x (2 ^ d * 32 + i)))) 64 := rfl
def lvl (x : Nat → Nat) : Nat → Nat := fun i => shaB (catN 32 (fun q => x (2 * (i / 32) * 32 + q)) (fun q => x ((2 * (i / 32) + 1) * 32 + q))) 64 (i % 32)
theorem zcv {a b c d : Nat → Nat} (h1 : ∀ i, i < 32 → a i = c i) (h2 : ∀ i, i < 32 → b i = d i) : shaB (catN 32 a b) 64 = shaB (catN 32 c d) 64 := zjp fun i hi => by
 unfold catN
 by_cases h : i < 32
 ·rw [if_pos h, if_pos h, h1 i h]
 ·rw [if_neg h, if_neg h, h2 _ (by omega)]
theorem zc0 : ∀ (d : Nat) (x y : Nat → Nat), (∀ i, i < 2 ^ d * 32 → x i = y i) → ∀ i, i < 32 → fullN d x i = fullN d y i := by
 intro d
 induction d with
 | zero => intro x y h i hi; exact h i (by simpa using hi)
 | succ d ih =>
  intro x y h i _
  have hp : 2 ^ (d + 1) = 2 * 2 ^ d := by rw [Nat.pow_succ]; omega
  rw [zen d x, zen d y]
  rw [zcv (ih x y (fun i hi => h i (by omega))) (ih _ _ (fun i hi => h (2 ^ d * 32 + i) (by omega)))]
theorem zgb : ∀ (d : Nat) (x : Nat → Nat) (i : Nat), i < 32 → fullN (d + 1) x i = fullN d (lvl x) i := by
 intro d
 induction d with
 | zero =>
  intro x i hi
  have e : shaB (catN 32 x (fun i => x (2 ^ 0 * 32 + i))) 64 = shaB (catN 32 (fun q => x (2 * (i / 32) * 32 + q)) (fun q => x ((2 * (i / 32) + 1) * 32 + q))) 64 :=
   zcv (fun q _ => congrArg x (by omega)) (fun q _ => congrArg x (by omega))
  exact (congrFun e i).trans (congrArg _ (show i = i % 32 by omega))
 | succ d ih =>
  intro x i hi
  rw [zen (d + 1) x, zen d (lvl x)]
  rw [zcv (ih x) (ih (fun i => x (2 ^ (d + 1) * 32 + i)))]
  rw [zcv (fun i _ => rfl) (zc0 d (lvl (fun i => x (2 ^ (d + 1) * 32 + i))) (fun i => lvl x (2 ^ d * 32 + i)) (fun j _ => by
   have hp : 2 ^ (d + 1) = 2 * 2 ^ d := by rw [Nat.pow_succ]; omega
   unfold lvl
   rw [show (2 ^ d * 32 + j) / 32 = 2 ^ d + j / 32 by omega, show (2 ^ d * 32 + j) % 32 = j % 32 by omega]
   rw [zcv (c := fun q => x (2 * (2 ^ d + j / 32) * 32 + q)) (d := fun q => x ((2 * (2 ^ d + j / 32) + 1) * 32 + q)) (fun q _ => congrArg x (by rw [hp]; omega)) (fun q _ => congrArg x (by rw [hp]; omega))]))]
theorem zn2 : ∀ (d : Nat) (i : Nat), i < 32 → zrN d i = fullN d (fun _ => 0) i := by
 intro d
 induction d with
 | zero => intro i _; rfl
 | succ d ih => intro i _; rw [zen]; unfold zrN; rw [zcv ih ih]
theorem zfh : ∀ (d n : Nat) (x : Nat → Nat), n ≤ 2 ^ d → ∀ i, i < 32 → treeN d n x i = fullN d (padN (n * 32) x) i := by
 intro d
 induction d with
 | zero =>
  intro n x hn i hi
  unfold treeN fullN padN
  by_cases h : n = 0
  ·subst h; rw [if_pos rfl, if_neg (by omega)]; rfl
  ·rw [if_neg h, if_pos (by omega)]
 | succ d ih =>
  intro n x hn i hi
  have hp : 2 ^ (d + 1) = 2 * 2 ^ d := by rw [Nat.pow_succ]; omega
  by_cases h : n = 0
  ·subst h
   rw [zft, zn2 _ i hi]
   refine zc0 _ _ _ (fun j _ => ?_) i hi
   unfold padN; rw [if_neg (by omega)]
  ·obtain ⟨m, hm⟩ : ∃ m, min (2 ^ d) n = m := ⟨_, rfl⟩
   rw [zg7 d n m x h hm, zen]
   rw [zcv (ih m x (by omega)) (ih (n - m) _ (by omega))]
   rw [zcv (c := fullN d (padN (n * 32) x)) (d := fullN d (fun i => padN (n * 32) x (2 ^ d * 32 + i))) (zc0 d _ _ (fun j hj => ?_)) (zc0 d _ _ (fun j hj => ?_))]
   ·unfold padN
    by_cases h1 : j < m * 32
    ·rw [if_pos h1, if_pos (by omega)]
    ·rw [if_neg h1, if_neg (by omega)]
   ·unfold padN
    by_cases h1 : j < (n - m) * 32
    ·rw [if_pos h1, if_pos (by omega), show m = 2 ^ d by omega]
    ·rw [if_neg h1, if_neg (by omega)]
end Go.Proofs.YtomilckcgmhfcaaDoor
namespace Go.Proofs.YtomilckcgmhfcaaDoor
set_option maxRecDepth 40000
set_option maxHeartbeats 64000000
def levN : Nat → (Nat → Nat) → Nat → Nat
  | 0, x => x
  | d + 1, x => levN d (lvl x)
theorem zhr : ∀ (d : Nat) (x : Nat → Nat), levN (d + 1) x = lvl (levN d x) := by
 intro d
 induction d with
 | zero => intro x; rfl
 | succ d ih => intro x; exact ih (lvl x)
theorem zr2 : ∀ (d : Nat) (x : Nat → Nat) (i : Nat), i < 32 → fullN d x i = levN d x i := by
 intro d
 induction d with
 | zero => intro x i _; rfl
 | succ d ih => intro x i hi; rw [zgb d x i hi]; exact ih (lvl x) i hi
theorem zp5 (x : Nat → Nat) (m i : Nat) : lvl (fun j => x (2 * m * 32 + j)) i = lvl x (m * 32 + i) := by
 unfold lvl
 rw [show (m * 32 + i) / 32 = m + i / 32 by omega, show (m * 32 + i) % 32 = i % 32 by omega]
 rw [zcv (c := fun q => x (2 * (m + i / 32) * 32 + q)) (d := fun q => x ((2 * (m + i / 32) + 1) * 32 + q)) (fun q _ => congrArg x (by omega)) (fun q _ => congrArg x (by omega))]
theorem zgj : ∀ (d k : Nat) (x : Nat → Nat) (q : Nat), q < 32 → fullN d (fun i => x (k * 2 ^ d * 32 + i)) q = levN d x (k * 32 + q) := by
 intro d
 induction d with
 | zero => intro k x q _; exact congrArg x (by simp)
 | succ d ih =>
  intro k x q hq
  rw [zgb d _ q hq, levN, ← ih k (lvl x) q hq]
  refine zc0 d _ _ (fun i _ => ?_) q hq
  have hp : k * 2 ^ (d + 1) = 2 * (k * 2 ^ d) := by rw [Nat.pow_succ]; rw [Nat.mul_comm 2, Nat.mul_assoc]
  rw [hp]
  exact zp5 x (k * 2 ^ d) i
theorem zi9 (d k n : Nat) (x : Nat → Nat) (h : n ≤ k * 2 ^ d) (q : Nat) (hq : q < 32) : levN d (padN (n * 32) x) (k * 32 + q) = zrN d q := by
 rw [← zgj d k _ q hq, zn2 d q hq]
 refine zc0 d _ _ (fun i _ => ?_) q hq
 unfold padN
 have := Nat.mul_le_mul_right 32 h
 rw [if_neg (by omega)]
def cnt : Nat → Nat → Nat
  | 0, n => n
  | d + 1, n => (cnt d n + 1) / 2
theorem zf2 : ∀ (d n : Nat), n ≤ cnt d n * 2 ^ d := by
 intro d
 induction d with
 | zero => intro n; simp [cnt]
 | succ d ih =>
  intro n
  have h := ih n
  have h2 : cnt d n ≤ 2 * ((cnt d n + 1) / 2) := by omega
  have h3 := Nat.mul_le_mul_right (2 ^ d) h2
  rw [cnt, Nat.pow_succ]
  have e : (cnt d n + 1) / 2 * (2 ^ d * 2) = 2 * ((cnt d n + 1) / 2) * 2 ^ d := by rw [Nat.mul_comm (2 ^ d) 2, ← Nat.mul_assoc, Nat.mul_comm _ 2]
  rw [e]; omega
theorem zp6 : ∀ (d n : Nat), cnt d n * 2 ^ d < n + 2 ^ d := by
 intro d
 induction d with
 | zero => intro n; simp [cnt]
 | succ d ih =>
  intro n
  have h := ih n
  have h2 : 2 * ((cnt d n + 1) / 2) ≤ cnt d n + 1 := by omega
  have h3 := Nat.mul_le_mul_right (2 ^ d) h2
  rw [cnt, Nat.pow_succ]
  have e : (cnt d n + 1) / 2 * (2 ^ d * 2) = 2 * ((cnt d n + 1) / 2) * 2 ^ d := by rw [Nat.mul_comm (2 ^ d) 2, ← Nat.mul_assoc, Nat.mul_comm _ 2]
  rw [Nat.add_mul] at h3
  rw [e]; omega
theorem zn3 : ∀ (d n : Nat), 1 ≤ n → 1 ≤ cnt d n := by
 intro d
 induction d with
 | zero => intro n h; exact h
 | succ d ih => intro n h; have := ih n h; rw [cnt]; omega
theorem zt1 (d n : Nat) (h1 : 1 ≤ n) (h : n ≤ 2 ^ d) : cnt d n = 1 := by
 have h2 := zp6 d n
 have h3 := zn3 d n h1
 have h4 : cnt d n < 2 := by
  rcases Nat.lt_or_ge (cnt d n) 2 with h5 | h5
  ·exact h5
  ·have := Nat.mul_le_mul_right (2 ^ d) h5; omega
 omega
theorem zv2 : ∀ (d n : Nat), cnt d n ≤ n := by
 intro d
 induction d with
 | zero => intro n; exact Nat.le_refl _
 | succ d ih => intro n; have := ih n; rw [cnt]; omega
theorem zp7 {x y : Nat → Nat} {M : Nat} (h : ∀ i, i < 2 * M * 32 → x i = y i) : ∀ i, i < M * 32 → lvl x i = lvl y i := fun i hi => by
 unfold lvl
 rw [zcv (fun q hq => h _ (by omega)) (fun q hq => h _ (by omega))]
theorem zv3 (d n : Nat) (x c : Nat → Nat) (hc : ∀ i, i < cnt d n * 32 → c i = levN d (padN (n * 32) x) i) : ∀ i, i < cnt (d + 1) n * 32 → lvl (catN (cnt d n * 32) c (zrN d)) i = levN (d + 1) (padN (n * 32) x) i := fun i hi => by
 rw [zhr]
 refine zp7 (M := cnt (d + 1) n) (fun j hj => ?_) i hi
 have hcs : cnt (d + 1) n = (cnt d n + 1) / 2 := rfl
 unfold catN
 by_cases h : j < cnt d n * 32
 ·rw [if_pos h]; exact hc j h
 ·rw [if_neg h]
  have := zi9 d (cnt d n) n x (zf2 d n) (j - cnt d n * 32) (by omega)
  rw [← this]
  exact congrArg _ (by omega)
theorem zja (d n : Nat) (x : Nat → Nat) (hn : n ≤ 2 ^ d) (q : Nat) (hq : q < 32) : treeN d n x q = levN d (padN (n * 32) x) q := by
 rw [zfh d n x hn q hq, zr2 d _ q hq]
end Go.Proofs.YtomilckcgmhfcaaDoor
namespace Go.Proofs.YtomilckcgmhfcaaDoor
set_option maxRecDepth 40000
set_option maxHeartbeats 64000000
open Go.RowKit
section
variable {P : Program}
theorem zt2 {t e : TypeId} {z : Nat} (hu : P.underlying t = some (.slice e)) (hz : (P.info? e).map (·.size) = some z) (A : Option Addr) (n c h : Nat) (hh : h ≤ c) (w : World) :
 (Instr.sliceAt t (.slice A n c) none (some (.int .i64 (h : Int))) (some (.int .i64 (h : Int)))).run P w = .ok (.slice A h h) w := by
 have b1 : (Instr.sliceBound (.int .i64 (h : Int)) c .slice3Acap).run P w = .ok h w := by
  rw [run_sliceBound w .i64 (h : Int) c _ (by omega) (by omega)]; simp
 have b2 : (Instr.sliceBound (.int .i64 (h : Int)) h .slice3B).run P w = .ok h w := by
  rw [run_sliceBound w .i64 (h : Int) h _ (by omega) (by omega)]; simp
 simp [Instr.sliceAt, Instr.slice, run_underlying hu, Instr.sliceBounds, b1, b2, zcm hz, zfd]
theorem zl6 {w : World} {B n : Nat} {ad : Addr} {f : Nat → Value} (h : Rd w B (some ad) n f) : ∀ j v, ((List.range n).map f)[j]? = some v → w.cell? (ad.add j) = some v := fun j v hv => by
 have hj : j < n := by
  rcases Nat.lt_or_ge j n with h | h
  ·exact h
  ·simp [h] at hv
 rw [h.cell_ hj]
 simpa [hj] using hv
variable (w : World)
theorem zp8 (base : Nat) (t ty e : TypeId) (i : TypeInfo) (z : Value) (k bytes : Nat) (ht : P.underlying t = some (.slice e)) (hi : P.info? e = some i) (hz : i.zero = some z)
    (hsize : i.size = k) (hby : i.bytes = bytes) (hzs : z.cells.size = k)
    {ad C : Addr} {n m cm B B2 : Nat} {f g : Nat → Value} (hf : Rd w B (some ad) (n * k) f) (hr : Rd w B2 (some C) (m * k) g) (hm : 0 < m)
    (hbytes : n + m ≤ 9223372036854775807 ∧ (n + m) * bytes ≤ 140737488355328) (hbase : base ≤ w.heap.size) :
    ∃ b c' w', (Builtin.append_ #[t, t] ty #[.slice (some ad) n n, .slice (some C) m cm]).run P w = .ok (.slice (some ⟨b, 0, none⟩) (n + m) c') w' ∧ OwnZ w' base e k (some ⟨b, 0, none⟩) (n + m) c' (catF (n * k) f g) ∧ Below w.heap.size w w' := by
 subst hsize
 subst hby
 have h63 : n + m ≤ maxLen := by unfold maxLen; omega
 have hr0 := run_append_grow (P := P) w t ty e i z ht hi hz ad n n ((List.range (n * i.size)).map f) (by simp) (zl6 hf) C m cm ((List.range (m * i.size)).map g) (by simp) (zl6 hr) (by omega) (by omega) (growslice_fits (by omega) hbytes.2)
 have hge := grownCap_ge w (n + m) n e
 have hcm := grownCap_le_maxLen w (n + m) n e h63
 refine ⟨_, _, _, hr0, ⟨by simp, .inr ⟨w.heap.size, _, _, rfl, hbase, heap_alloc_new w.drew _, hge, hcm, ?_, ?_⟩⟩, ⟨rfl, rfl, rfl, by simp, fun q hq => heap_alloc_old w.drew _ hq⟩⟩
 ·simp only [Array.size_append, List.size_toArray, size_zeroCells, hzs, List.length_map, List.length_range, ← Nat.add_mul]
  congr 1
  omega
 ·have hl : ((List.range (n * i.size)).map f ++ (List.range (m * i.size)).map g).length = (n + m) * i.size := by simp [Nat.add_mul]
  have hc : (List.range ((n + m) * i.size)).map (catF (n * i.size) f g) = (List.range (n * i.size)).map f ++ (List.range (m * i.size)).map g := by rw [ziz, ← Nat.add_mul]
  simp only [Array.toList_append, List.append_assoc]
  rw [← List.append_assoc, hc, ← hl]
  exact List.take_left
theorem zr3 {o : Oper} {a : Act} {K : Act → World → Prop} {Q : Exit → Act → World → Prop} (s x : Operand) (t base : Nat) {e : TypeId} {z : Value} {k bytes : Nat}
    (hinfo : (P.info? e).map (fun i => (i.zero, i.size, i.bytes)) = some (some z, k, bytes)) (ht : P.underlying t = some (.slice e)) (hzs : z.cells.size = k)
    (ho : o.op = .call { callee := .builtin .append, args := #[s, x], argTypes := #[t, t] }) {ad : Addr} {C : Option Addr} {n m cm B B2 : Nat} {f g : Nat → Value} (hs : a.eval s = .slice (some ad) n n) (hx : a.eval x = .slice C m cm) (hf : Rd w B (some ad) (n * k) f) (hr : Rd w B2 C (m * k) g) (hm : 0 < m * k)
    (hbytes : n + m ≤ 9223372036854775807 ∧ (n + m) * bytes ≤ 140737488355328) (hbase : base ≤ w.heap.size)
    (hK : ∀ b c' w', OwnZ w' base e k (some ⟨b, 0, none⟩) (n + m) c' (catF (n * k) f g) → Below w.heap.size w w' → K (a.put o.dst (.slice (some ⟨b, 0, none⟩) (n + m) c')) w') : o.wp P a w K Q := by
 obtain ⟨C, rfl, _, _⟩ := hr hm
 have hm0 : 0 < m := by
  rcases Nat.eq_zero_or_pos m with h | h
  ·rw [h] at hm; simp at hm
  ·exact h
 obtain ⟨i, hi, hz, hsize, hby⟩ := infoZ hinfo
 obtain ⟨b, c', w', hrun, h5, h6⟩ := zp8 (P := P) w base t o.type e i z k bytes ht hi hz hsize hby hzs (cm := cm) hf hr hm0 hbytes hbase
 unfold Oper.wp execOp
 simp only [ho, resolve, invoke, builtin, Sem.run_bind, Sem.run_pure, Result.andThen_ok, List.map_toArray, List.map_cons, List.map_nil, hs, hx]
 rw [hrun]
 exact hK _ _ _ h5 h6
end
section
variable {P : Program} {ops : Array Oper} {B : Nat} {w0 : World} {o : Oper} {lk : Tmp → SF} {ty : TypeId}
theorem zp9 {x u m v : Value} {xo yo mo : Operand} (hg : o.guard = none) (hop : o.op = .slice ty xo none (some yo) (some mo)) (hx : OpK lk xo x) (hy : OpK lk yo u) (hm : OpK lk mo m)
    (hr : ∀ w, (Instr.sliceAt ty x none (some u) (some m)).run P w = .ok v w) : opOb P ops B w0 o (sI v) lk :=
 zbw _ hg fun a w _ hf => by
  have h1 := hx.eval hf (by rw [hop]; simp [Op.operands])
  have h2 := hy.eval hf (by rw [hop]; simp [Op.operands])
  have h3 := hm.eval hf (by rw [hop]; simp [Op.operands])
  unfold execOp
  rw [hop]
  simp only [h1, Option.map_some, Option.map_none, h2, h3]
  simp [hr w]
end
theorem zii (k N : Nat) (hk : 0 < k) : ∀ i, i < N → (madeCells (Array.replicate k (Value.int .u8 0)) N)[i]? = some (.int .u8 0) := fun i hi => by
 have hm : i % k < k := Nat.mod_lt _ hk
 simp [madeCells, hi, hm]
section
variable {P : Program}
theorem zd5 {ops : Array Oper} {rest : List Oper} {o : Oper} {a : Act} {w w0 : World} {Q : Exit → Act → World → Prop} {rows : List RowSpec} (hgd : o.guard = none) (t : TypeId) {e : TypeId} {z : Value} {k bytes : Nat} (ht : P.underlying t = some (.slice e)) (hinfo : (P.info? e).map (fun i => (i.zero, i.size, i.bytes)) = some (some z, k, bytes))
    (x y : Operand) (ho : o.op = .makeSlice t x y) (n : Nat) (hx : a.eval x = .int .i64 (n : Int)) (hy : a.eval y = .int .i64 (n : Int)) (f : Nat → Value) (hf : ∀ i, i < n * k → (madeCells z.cells (n * k))[i]? = some (f i)) (hbytes : bytes * n ≤ 281474976710656) (h63 : n ≤ 9223372036854775807) (h : HS w0 w rows)
    (hK : ∀ b w', w0.heap.size ≤ b → w.heap.size ≤ b → HS w0 w' (⟨b, e, n * k, f⟩ :: rows) → wpList P ops Q rest (a.put o.dst (.slice (some ⟨b, 0, none⟩) n n)) w') : wpList P ops Q (o :: rest) a w :=
 wpList_plain hgd fun _ hK' => by
  obtain ⟨i, hi, hz, hsize, hby⟩ := infoZ hinfo
  have hr := run_make (P := P) w t e i z ht hi hz .i64 .i64 (n : Int) (n : Int) (by omega) (Int.le_refl _) (by rw [hby, ← Int.natCast_mul]; omega) (by omega)
  simp only [Int.toNat_natCast, hsize] at hr
  have hrun : (execOp a.eval o).run P w = .ok (.value (.slice (some ⟨w.heap.size, 0, none⟩) n n)) (w.alloc (.cells (madeCells z.cells (n * k)) e)) := by
   unfold execOp
   rw [ho]
   simp only [hx, hy]
   simp [hr]
  unfold Oper.wp
  rw [hrun]
  exact hK' _ _ (hK _ _ h.size lR (h.alloc _ e (n * k) f (size_madeCells _ _) hf))
end
section
variable {P : Program}
theorem zf3 {w : World} {b : Nat} {t : TypeId} {n : Nat} {f : Nat → Value} (h : w.rowIs b t n f) (ty : TypeId) (o m : Nat) (g : Nat → Value) (hi : (P.info? ty).map (·.size) = some m) (hfit : o + m ≤ n) (h1 : ∀ i, i < m → (g i).oneCell' = true) :
 ∃ w1, (Instr.storeAt ty (.pointer (some ⟨b, o, none⟩)) (.agg (arr m g))).run P w = .ok () w1 ∧ w1.rowIs b t n (fun j => if o ≤ j ∧ j < o + m then g (j - o) else f j) ∧ w.grownBy w1 (some b) := by
 obtain ⟨cur, hcur, hsz, hcc⟩ := h
 cases hq : P.info? ty with
 | none => rw [hq] at hi; simp at hi
 | some i =>
  have hs : i.size = m := by rw [hq] at hi; simpa using hi
  have hl : (arr m g).toList.length = m := by simp [zam]
  have hrun := run_storeCells_at (P := P) b o t (arr m g).toList 0 cur w hcur (by rw [hl]; omega) (fun v hv => by
   obtain ⟨j, hj, rfl⟩ := List.mem_iff_getElem.1 hv
   have hj' : j < m := by omega
   have h2 := zaq m g j hj'
   rw [← Array.getElem?_toList, List.getElem?_eq_getElem hj] at h2
   injection h2 with h2
   rw [h2]; exact h1 j hj')
  rw [hl] at hrun
  refine ⟨_, ?_, World.rowIs_setRow ⟨cur, hcur, hsz, hcc⟩ (cur.toList.take (o + 0) ++ (arr m g).toList ++ cur.toList.drop (o + 0 + m)).toArray (by simp [zam]; omega) _ (fun q hq2 => ?_), ⟨rfl, rfl, rfl, by rw [zec]; exact Nat.le_refl _, fun i _ hne => by
   unfold World.setRow
   have : ¬ b = i := fun e => hne (by rw [e])
   simp [Array.getElem?_modify, this]⟩⟩
  ·simp only [Instr.storeAt, Instr.sureAddr, Sem.run_bind, Sem.run_pure, Result.andThen]
   simpa [storeVar, sizeOf, typeInfo, hq, Value.cells, zam, hs] using hrun
  ·have hci := hcc q hq2
   simp only [Nat.add_zero, List.getElem?_toArray, List.getElem?_append, List.length_take, List.length_append, hl, Array.length_toList]
   by_cases h2 : q < o
   ·rw [if_neg (show ¬ (o ≤ q ∧ q < o + m) by omega)]
    rw [if_pos (show q < min o cur.size + m by omega), if_pos (show q < min o cur.size by omega), List.getElem?_take, if_pos h2, Array.getElem?_toList, hci]
   ·by_cases h3 : q < o + m
    ·rw [if_pos (show o ≤ q ∧ q < o + m by omega)]
     rw [if_pos (show q < min o cur.size + m by omega), if_neg (show ¬ q < min o cur.size by omega), show min o cur.size = o by omega, Array.getElem?_toList, zaq m g _ (by omega)]
    ·rw [if_neg (show ¬ (o ≤ q ∧ q < o + m) by omega)]
     rw [if_neg (show ¬ q < min o cur.size + m by omega), List.getElem?_drop, show min o cur.size = o by omega, show o + m + (q - (o + m)) = q by omega, Array.getElem?_toList, hci]
theorem zds {o : Oper} {a : Act} {w w0 : World} {K : Act → World → Prop} {Q : Exit → Act → World → Prop} {rows : List RowSpec} (ty : TypeId) (x y : Operand) (ho : o.op = .store ty x y) (h : HS w0 w rows) (k : Nat) {b : Nat} {t : TypeId} {n : Nat} {f : Nat → Value} (hk : rows[k]? = some ⟨b, t, n, f⟩)
    (off m : Nat) (g : Nat → Value) (hx : a.eval x = .pointer (some ⟨b, off, none⟩)) (hy : a.eval y = .agg (arr m g)) (hi : (P.info? ty).map (·.size) = some m) (hfit : off + m ≤ n) (h1 : ∀ i, i < m → (g i).oneCell' = true) (F : Nat → Value) (hF : ∀ j, j < n → (if off ≤ j ∧ j < off + m then g (j - off) else f j) = F j)
    (hK : ∀ w', HS w0 w' (rows.set k ⟨b, t, n, F⟩) → K (a.put o.dst undef) w') : o.wp P a w K Q := by
 obtain ⟨w1, hrun, hr, hg⟩ := zf3 (P := P) (h.row k hk) ty off m g hi hfit h1
 unfold Oper.wp execOp
 simp only [ho, hx, hy, Sem.run_bind, hrun, Result.andThen_ok, Sem.run_pure]
 exact hK _ (h.write k hk hg (hr.congr hF))
theorem zfm {ops : Array Oper} {rest : List Oper} {o : Oper} {a : Act} {w w0 : World} {Q : Exit → Act → World → Prop} {rows : List RowSpec} (hgd : o.guard = none) (ty : TypeId) (x y : Operand) (ho : o.op = .store ty x y) (h : HS w0 w rows) (k : Nat) {b : Nat} {t : TypeId} {n : Nat} {f : Nat → Value} (hk : rows[k]? = some ⟨b, t, n, f⟩)
    (off m : Nat) (g : Nat → Value) (hx : a.eval x = .pointer (some ⟨b, off, none⟩)) (hy : a.eval y = .agg (arr m g)) (hi : (P.info? ty).map (·.size) = some m) (hfit : off + m ≤ n) (h1 : ∀ i, i < m → (g i).oneCell' = true) (F : Nat → Value) (hF : ∀ j, j < n → (if off ≤ j ∧ j < off + m then g (j - off) else f j) = F j)
    (hK : ∀ w', HS w0 w' (rows.set k ⟨b, t, n, F⟩) → wpList P ops Q rest (a.put o.dst undef) w') : wpList P ops Q (o :: rest) a w :=
 wpList_plain hgd fun _ hK' => zds ty x y ho h k hk off m g hx hy hi hfit h1 F hF fun w' h2 => hK' _ _ (hK w' h2)
end
theorem OwnZ.row {w : World} {base z n c : Nat} {e : TypeId} {ad : Addr} {f : Nat → Value} (h : OwnZ w base e z (some ad) n c f) : ∃ F, w.rowIs ad.block e (c * z) F ∧ (∀ i, i < n * z → F i = f i) ∧ base ≤ ad.block := by
 rcases h.2 with ⟨hv, _⟩ | ⟨g, cap, cur, hv, hb, hh, _, _, hs, ht⟩
 ·injection hv with h1; cases h1
 ·injection hv with h1 _ h3
  injection h1 with h1
  subst h1 h3
  refine ⟨fun i => cur.getD i undef, ⟨cur, hh, hs, fun i hi => by simp [Array.getD, show i < cur.size by omega]⟩, fun i hi => ?_, hb⟩
  have h4 : (cur.toList.take (n * z))[i]? = some (f i) := by rw [ht]; simp [hi]
  rw [List.getElem?_take, if_pos hi, Array.getElem?_toList] at h4
  simp [Array.getD_eq_getD_getElem?, h4]
theorem OwnZ.of_rowC {w : World} {base z n c b : Nat} {e : TypeId} {F f : Nat → Value} (h : w.rowIs b e (c * z) F) (hb : base ≤ b) (hn : n ≤ c) (hc : c ≤ maxLen) (hf : ∀ i, i < n * z → F i = f i) : OwnZ w base e z (some ⟨b, 0, none⟩) n c f := by
 obtain ⟨cs, hh, hs, hcc⟩ := h
 have hnz : n * z ≤ c * z := Nat.mul_le_mul_right _ hn
 refine ⟨by simp, .inr ⟨b, c, cs, rfl, hb, hh, hn, hc, hs, ?_⟩⟩
 apply List.ext_getElem?
 intro i
 by_cases hi : i < n * z
 ·simp [hi, hcc i (by omega), hf i hi]
 ·simp [List.getElem?_take, hi]
end Go.Proofs.YtomilckcgmhfcaaDoor
