/- Lemmas that the proof stands on. -/
import Derived.Test.YtomilckcgmhfcaaDoorGLit17
import Derived.Test.YtomilckcgmhfcaaDoorGLit18
import Derived.Deep.CutBlock
namespace Go.Proofs.YtomilckcgmhfcaaDoor
set_option maxRecDepth 40000
set_option maxHeartbeats 64000000
open Go.RowKit
namespace TreeRoot
theorem idxI (w : World) (b n c k : Nat) (hk : k < n) : (Instr.indexAt 139 (.slice (some ⟨b, 0, none⟩) n c) (.int .i64 (k : Int))).run Tryd.prog w = .ok (.pointer (some ⟨b, k, none⟩)) w := by
 have h := zaw (z := 1) (k := k) (P := Tryd.prog) (c := c) w Ty139 (by kernel_rfl) ⟨b, 0, none⟩ hk
 rw [zai, Nat.mul_one] at h
 exact h
theorem shr1I (i k : Nat) (hk : i / 2 = k) (w : World) : (binOp .shr 3 (.int .i64 (i : Int)) (.int .u64 1)).run Tryd.prog w = .ok (.int .i64 (k : Int)) w := by
 subst hk
 simp [go_sem]
theorem gtI1 (u : Nat) (h : 0 < u) (w : World) : (binOp .gtr 3 (.int .i64 (u : Int)) (.int .i64 0)).run Tryd.prog w = .ok (.bool true) w := by
 simp [go_sem, h]
theorem subI1 (u : Nat) (h : 0 < u) (h2 : u < 4611686018427387904) (w : World) : (binOp .sub 3 (.int .i64 (u : Int)) (.int .i64 1)).run Tryd.prog w = .ok (.int .i64 ((u - 1 : Nat) : Int)) w := by
 simp [go_sem, IntKind.wrap, IntKind.bits, IntKind.signed]
 omega
theorem mul2I (k e : Nat) (h : 2 * k = e) (h2 : e < 4611686018427387904) (w : World) : (binOp .mul 3 (.int .i64 2) (.int .i64 (k : Int))).run Tryd.prog w = .ok (.int .i64 (e : Int)) w := by
 subst h
 simp [go_sem, IntKind.wrap, IntKind.bits, IntKind.signed]
 omega
theorem add1I (k e : Nat) (h : k + 1 = e) (h2 : e < 4611686018427387904) (w : World) : (binOp .add 3 (.int .i64 (k : Int)) (.int .i64 1)).run Tryd.prog w = .ok (.int .i64 (e : Int)) w := by
 subst h
 simp [go_sem, IntKind.wrap, IntKind.bits, IntKind.signed]
 omega
theorem zuy {o : Oper} {a : Act} {x : Operand} {A : Option Addr} {n c : Nat} (ho : o.op = .call { callee := .builtin .len, args := #[x], argTypes := #[139] }) (hx : a.eval x = .slice A n c) : ∀ w, (execOp a.eval o).run Tryd.prog w = .ok (.value (.int .i64 (n : Int))) w := fun w => by
 unfold execOp
 simp only [ho, resolve, invoke, builtin, Sem.run_bind, Sem.run_pure, Result.andThen_ok, List.map_toArray, List.map_cons, List.map_nil, hx]
 simp [Builtin.len_, run_underlying Ty139, go_sem]
theorem zlr {o : Oper} {a : Act} {x : Operand} {v : Value} (ho : o.op = .move x) (hx : a.eval x = v) (w : World) : (execOp a.eval o).run Tryd.prog w = .ok (.value v) w := zce (.inl ho) hx w
theorem zwj {w : World} {o : Oper} {a : Act} {rt : TypeId} {xo yo : Operand} (x y : Nat) (b : Bool) (hb : b = true ↔ x = y) (hop : o.op = .binOp .eql 3 xo yo rt) (hx : a.eval xo = .int .i64 (x : Int)) (hy : a.eval yo = .int .i64 (y : Int)) : (execOp a.eval o).run Tryd.prog w = .ok (.value (.bool b)) w := by
 unfold execOp
 rw [hop]
 simp only [hx, hy]
 have h : ((x : Int) == (y : Int)) = b := by
  rw [Bool.eq_iff_iff, beq_iff_eq, hb]; omega
 simp [eqGuard, go_sem, h]
theorem stI (m : Int) (w : World) (ad : Addr) (u : Value) (h : w.cell? ad = some u) (hf : w.frozen? ad = false) : (Instr.storeAt 3 (.pointer (some ad)) (.int .i64 m)).run Tryd.prog w = .ok () (w.setCell ad (.int .i64 m)) := by
 simp [go_sem, h, hf]
end TreeRoot
open TreeFn TreeMark TreeSt TreeApp TreeNew TreeGet TreeCopy TreeRoot TreeMarked in
theorem zo1 (v : TV) (base T n : Nat) (x : Nat → Nat) (w : World) (h : TM w base T v) (hst : TSt v n x) (hn : 0 < n) (hH : v.H ≤ 1152921504606846976) (hp : ShaPkg w) (hpB : 0 < base ∧ 1 < base) (hpt : TzPkg w) :
 Calls Tryd.prog 57 #[tpV T] w fun r w' => ∃ v2, r = .returned (rootV (treeN v.D n x)) ∧ TM w' base T v2 ∧ TStep w w' T v v2 ∧ TSt v2 n x ∧ (∀ a, dirB v2.dn v2.dw a = false) ∧ v2.H = v.H + costN n (dirB v.dn v.dw) v.D := by
 have H0 := Hd h
 have HT0 := Hd hst
 have HP := Hd hp
 have HpB := Hd hpB
 have HPT := Hd hpt
 have HN := Hd hst.n0
 have HS0 := Hd (HS.nil w)
 have hn30 : n ≤ 1073741824 := lT hst.nle hst.lim
 have hdn24 : v.dn ≤ 16777216 := by have := hst.dn; omega
 obtain ⟨D, hDd⟩ : ∃ D, v.D = D := ⟨_, rfl⟩
 have HD := Hd hDd
 have hD30 : D ≤ 30 := by rw [← hDd]; exact hst.D30
 have hn0 : ((n : Int) == 0) = false := by simp; omega
 have HL0 : Hid (filL (dirB v.dn v.dw) (v.dn * 64) = atL n (dirB v.dn v.dw) 0) := Hd (zux hst.tn)
 clear h hst hp hpB hpt hDd
 go_enter Tryd.func57, Tryd.ntmps57
 go_wp2_with (first
  | (refine zac rfl 24 2 rfl rfl HS0.out _ z24 32 (u8v fun _ => 0) n24 f24 ?_; intro b2 w2 hb2 hc2 hs; have HS2 := Hd hs; have HB2 := Hd (hs.out (by simp; omega)); have HR2 := Hd (hs.row 0 rfl); have hl2 : b2 < w2.heap.size := hs.lt 0 rfl; clear hs)
  | (refine zab rfl 20 rfl (.slice (some ⟨v.lb, 0, none⟩) (D + 1) v.lc) ?_ ?_; (· exact zan rfl rfl Ty134 (H0.out.below HB2.out).c2 (by rw [HD.out])))
  | (refine zab rfl 22 rfl (.int .i64 (D : Int)) ?_ ?_; (· exact za1 rfl rfl rfl rfl (fun w => subI (D + 1) D rfl (by omega) w) _))
  | (go_at_call 80; refine (zd6 v base T _ (H0.out.below HB2.out)).mono ?_; rintro r w5 ⟨rfl, hw5⟩; rw [hw5, HN.out]; clear hw5 w5)
  | (go_at_call 81; refine (znm v base T _ (H0.out.below HB2.out) HT0.out.dw hdn24 (HPT.out.below HB2.out HPT.out.lt)).mono ?_; rintro r w3 ⟨C, cC, rfl, ho, hb⟩; rw [HL0.out]; rw [HL0.out] at ho; have HC3 := Hd ho; have HB3 := Hd hb; have HM3 := Hd ((H0.out.below HB2.out).below hb); clear ho hb))
 have HRS3 := Hd (RS.start HM3.out HT0.out)
 have HCn3 : Hid (∀ b, OnA C b → ¬ v.own T b) := Hd (fun b hb ho => by
  have h1 := (HC3.out.on hb).1
  have h2 := (H0.out.below HB2.out).lt ho
  omega)
 have hz23 := HB3.out.size
 have HR3 := Hd (zaj HR2.out HB3.out hl2)
 have HP3 := Hd (HP.out.below (HB2.out.trans (HB3.out.mono HB2.out.size)))
 go_loopw [4, 36] (fun lst i wr => ∃ (d : Nat) (C : Option Addr) (cC : Nat) (v1 : TV), lst = .slice C (atL n (dirB v.dn v.dw) d).length cC ∧ i = .int .i64 (d : Int) ∧ d ≤ D ∧ OwnZ wr w2.heap.size 3 1 C (atL n (dirB v.dn v.dw) d).length cC (i64v (atN n (dirB v.dn v.dw) d)) ∧ RS w3 wr base T v v1 n x d ∧ ∀ b, OnA C b → ¬ v1.own T b) (fun _ i _ => D - (intOf i).toNat)
 case atStart => exact ⟨0, C, cC, v, rfl, rfl, Nat.zero_le _, HC3.out, HRS3.out, HCn3.out⟩
 case round =>
  obtain ⟨d, C, cC, v1, rfl, rfl, hd, ho, hrs, hcn⟩ := hrel
  have HC := Hd ho
  have HRS := Hd hrs
  have HCn := Hd hcn
  clear ho hrs hcn HRS3 HCn3 HC3
  obtain ⟨wo, rfl⟩ : ∃ wo : World, wo = wr := ⟨_, rfl⟩
  obtain ⟨len, hlen⟩ : ∃ len, (atL n (dirB v.dn v.dw) d).length = len := ⟨_, rfl⟩
  have HLen := Hd hlen
  rw [hlen] at HC
  rw [hlen]
  have HD1 : Hid (v1.D = D) := Hd (HRS.out.st.D.trans HD.out)
  have hlen30 : len ≤ n := by rw [← hlen]; exact lT (zjv d) (TreeCopy.zik n d)
  clear hlen
  by_cases hdD : d < D
  ·have HLv := Hd (HRS.out.tm.level (k := d) (by rw [HD1.out]; omega))
   have hcD : 0 < v1.lm d := by
    have h1 := (HRS.out.lo d lR).1
    have h2 := zf2 d n
    rcases Nat.eq_zero_or_pos (cnt d n) with h3 | h3
    ·rw [h3] at h2; omega
    ·omega
   obtain ⟨bd, hbd⟩ := zdv (HRS.out.tm.lv d (by rw [HD1.out]; omega)) hcD
   obtain ⟨m, hm⟩ : ∃ m, v1.lm d = m := ⟨_, rfl⟩
   obtain ⟨ck, hck⟩ : ∃ ck, v1.lk d = ck := ⟨_, rfl⟩
   have HBd := Hd hbd
   have HMd := Hd hm
   have HCk := Hd hck
   clear hbd hm hck hcD
   go_wp2_with (first
    | (refine zab rfl 42 rfl (.slice (some ⟨v1.lb, 0, none⟩) (D + 1) v1.lc) ?_ ?_; (· exact zan rfl rfl Ty134 HRS.out.tm.c2 (by rw [HD1.out])))
    | (refine zab rfl 44 rfl (.pointer (some ⟨v1.lb, d, none⟩)) ?_ ?_; (· exact zbb rfl rfl rfl (fun w => ixL w _ _ _ d (by omega)) _))
    | (refine zab rfl 45 rfl (.slice (some ⟨bd, 0, none⟩) m ck) ?_ ?_; (· exact zan rfl rfl Ty32 HLv.out (by rw [HBd.out, HMd.out, HCk.out]))))
   go_loopw [7, 48] (fun up i wq => ∃ (q : Nat) (U : Option Addr) (cU : Nat) (v2 : TV), up = .slice U (hfN (atN n (dirB v.dn v.dw) d) q).length cU ∧ i = .int .i64 (q : Int) ∧ q ≤ len ∧ OwnZ wq w2.heap.size 3 1 C len cC (i64v (atN n (dirB v.dn v.dw) d)) ∧ OwnZ wq w3.heap.size 3 1 U (hfN (atN n (dirB v.dn v.dw) d) q).length cU (i64v fun j => (hfN (atN n (dirB v.dn v.dw) d) q).getD j 0) ∧ IS w3 wq base T v v1 v2 n x d q ∧ (∀ b, OnA C b → ¬ v2.own T b) ∧ (∀ b, OnA U b → ¬ v2.own T b) ∧ (∀ b, OnA U b → ¬ OnA C b) ∧ v2.lA d = v1.lA d ∧ v2.lk d = v1.lk d) (fun _ i _ => len - (intOf i).toNat)
   case atStart => exact ⟨0, none, 0, v1, rfl, rfl, Nat.zero_le _, HC.out, OwnZ.nil _ _ _ _ _, IS.start HRS.out HT0.out (by rw [HD.out]; exact hdD), HCn.out, (fun b hb => by obtain ⟨ad, e, _⟩ := hb; cases e), (fun b hb => by obtain ⟨ad, e, _⟩ := hb; cases e), rfl, rfl⟩
   case round =>
    obtain ⟨q, U, cU, v2, rfl, rfl, hq, hoC, hoU, his, hcn, hun, huc, hA, hK⟩ := hrel
    by_cases hql : q < len
    ·obtain ⟨wq, rfl⟩ : ∃ wq : World, wq = wr := ⟨_, rfl⟩
     have hql' : q < (atL n (dirB v.dn v.dw) d).length := by rw [HLen.out]; exact hql
     have hic := zme (n := n) (t := dirB v.dn v.dw) hql'
     have hpl := zjw his.part hql'
     have hDv : v2.D = D := his.st.D.trans HD.out
     have hsd := his.same d (by omega)
     have hlv := HRS.out.lo d lR
     have hcl := TreeCopy.zik n d
     have hcn1 := TreeCopy.zik n (d + 1)
     have hlv2 : OwnZ wq base 24 32 (v1.lA d) (v1.lm d) (v1.lk d) (u8v (v1.g d)) := by
      have h1 := his.tm.lv d (by omega)
      rw [hA, hK, hsd.1, hsd.2] at h1
      exact h1
     have hmi : atN n (dirB v.dn v.dw) d q < v1.lm d := by rw [hlv.1]; exact hic
     obtain ⟨bc, rfl⟩ := zdv hoC (by omega)
     obtain ⟨adz, hzA, _, _⟩ := his.tm.zr (by omega)
     have HZA := Hd hzA
     have HCi : Hid (wq.cell? ⟨bc, q, none⟩ = some (.int .i64 ((atN n (dirB v.dn v.dw) d q : Nat) : Int))) := Hd (by
      have h1 := hoC.rd
      have h2 := h1.cells (i := q) (by omega)
      rw [zai] at h2
      exact h2)
     have HIS := Hd his
     have HoC := Hd hoC
     have HoU := Hd hoU
     have HCn2 := Hd hcn
     have HUn := Hd hun
     have HUc := Hd huc
     have HA2 := Hd hA
     have HK2 := Hd hK
     have HQl := Hd hql'
     have HLv1 := Hd hlv
     have HDv := Hd hDv
     have hzq : w3.heap.size ≤ wq.heap.size := his.st.chg.size
     rw [HMd.out] at hmi
     have hmn : m ≤ n := by rw [← HMd.out, hlv.1]; exact hcl
     have hm2 := hpl.1
     have hkc := hpl.2
     obtain ⟨i, hi⟩ : ∃ i, atN n (dirB v.dn v.dw) d q = i := ⟨_, rfl⟩
     have HI := Hd hi
     rw [hi] at HCi hmi hm2 hkc
     obtain ⟨k, hk⟩ : ∃ k, i / 2 = k := ⟨_, rfl⟩
     have HKk := Hd hk
     rw [hk] at hm2 hkc
     obtain ⟨L, hL⟩ : ∃ L, hfN (atN n (dirB v.dn v.dw) d) q = L := ⟨_, rfl⟩
     have HL := Hd hL
     have hLq : L.length ≤ q := by rw [← hL]; exact zwc q
     rw [hL] at HoU
     rw [hL]
     obtain ⟨e, he⟩ : ∃ e, 2 * k = e := ⟨_, rfl⟩
     obtain ⟨e1, he1⟩ : ∃ e1, e + 1 = e1 := ⟨_, rfl⟩
     have hem : e < m := by omega
     have HE := Hd he
     have HE1 := Hd he1
     have hk30 : k ≤ n := by omega
     have hev : 2 * k ≤ e ∧ e ≤ 2 * k ∧ e1 ≤ e + 1 ∧ e + 1 ≤ e1 := by omega
     clear his hoC hoU hcn hcl hun huc hA hK hql' hic hpl hDv hsd hlv hlv2 hzA hcn1 hi hk hL he he1
     go_upto_block 3 with fail
     go_cut [7, 9, 10, 11, 12, 13] from 50 to 144 (fun t7 _t9 _t10 _t11 _t12 _t13 wx => ∃ U' cU' v3, t7 = .slice U' (hfN (atN n (dirB v.dn v.dw) d) (q + 1)).length cU' ∧ OwnZ wx w2.heap.size 3 1 (some ⟨bc, 0, none⟩) len cC (i64v (atN n (dirB v.dn v.dw) d)) ∧ OwnZ wx w3.heap.size 3 1 U' (hfN (atN n (dirB v.dn v.dw) d) (q + 1)).length cU' (i64v fun j => (hfN (atN n (dirB v.dn v.dw) d) (q + 1)).getD j 0) ∧ IS w3 wx base T v v1 v3 n x d (q + 1) ∧ (∀ b, OnA (some ⟨bc, 0, none⟩) b → ¬ v3.own T b) ∧ (∀ b, OnA U' b → ¬ v3.own T b) ∧ (∀ b, OnA U' b → ¬ OnA (some ⟨bc, 0, none⟩) b) ∧ v3.lA d = v1.lA d ∧ v3.lk d = v1.lk d)
     case first =>
      go_upto_region 16 with (first
       | (refine zab rfl 50 rfl (.pointer (some ⟨bc, q, none⟩)) ?_ ?_; (· exact zbb rfl rfl rfl (fun w => idxI w bc len cC q hql) _))
       | (refine zab rfl 51 rfl (.int .i64 (i : Int)) ?_ ?_; (· exact zbf .i64 rfl rfl Ty3 HCi.out))
       | (refine zab rfl 53 rfl (.int .i64 (k : Int)) ?_ ?_; (· exact za1 rfl rfl rfl rfl (fun w => shr1I i k HKk.out w) _)))
      go_cut [66] from 54 to 66 (fun vb wx => vb = .bool (decide (L.getLast? = some k)) ∧ wq = wx)
      case first =>
       rcases hg : L.getLast? with _ | l
       ·have hL0 : L.length = 0 := by rw [List.getLast?_eq_none_iff] at hg; rw [hg]; rfl
        have HG := Hd hg
        clear hg
        go_wp2_with (first
         | (refine zab rfl 56 rfl (.bool false) ?_ ?_; (· exact za1 rfl rfl rfl rfl (fun w => gtI0' _ hL0 w) _)))
        go_meet
        case rel => exact ⟨by rw [HG.out]; simp, rfl⟩
       ·have hL1 : 0 < L.length := by
         rcases Nat.eq_zero_or_pos L.length with h | h
         ·rw [List.eq_nil_of_length_eq_zero h] at hg; cases hg
         ·exact h
        have hll : L.getD (L.length - 1) 0 = l := by
         rw [List.getLast?_eq_getElem?] at hg
         simp [List.getD, hg]
        obtain ⟨bu, hbu⟩ := zdv HoU.out hL1
        have HCu : Hid (wq.cell? ⟨bu, L.length - 1, none⟩ = some (.int .i64 (l : Int))) := Hd (by
         have h1 := HoU.out.rd
         rw [hbu] at h1
         have h2 := h1.cells (i := L.length - 1) (by omega)
         rw [zai] at h2
         rw [h2, ← hll]; rfl)
        subst hbu
        have HG := Hd hg
        clear hll hg
        go_wp2_with (refine zab rfl 56 rfl (.bool true) ?_ ?_; (· exact za1 rfl rfl rfl rfl (fun w => gtI1 L.length hL1 w) _); refine PickRich.zql ?_)
        refine Hd ?_
        refine zab rfl 57 rfl (.bool true) (by apply zlr <;> rfl) ?_
        simp only [pcX]
        refine zct rfl rfl rfl 58 rfl (.slice (some ⟨bu, 0, none⟩) L.length cU) (by apply zlr <;> rfl) ?_
        simp only [pcX]
        refine zct rfl rfl rfl 59 rfl (.slice (some ⟨bu, 0, none⟩) L.length cU) (by apply zlr <;> rfl) ?_
        simp only [pcX]
        refine zct rfl rfl rfl 60 rfl (.int .i64 (L.length : Int)) (by exact zuy rfl rfl _) ?_
        simp only [pcX]
        refine zct rfl rfl rfl 61 rfl (.int .i64 ((L.length - 1 : Nat) : Int)) (by exact za1 rfl rfl rfl rfl (fun w => subI1 L.length hL1 (by omega) w) _) ?_
        simp only [pcX]
        refine zct rfl rfl rfl 62 rfl (.pointer (some ⟨bu, L.length - 1, none⟩)) (by exact zbb rfl rfl rfl (fun w => idxI w bu L.length cU (L.length - 1) (by omega)) _) ?_
        simp only [pcX]
        refine zct rfl rfl rfl 63 rfl (.int .i64 (l : Int)) (by exact zbf .i64 rfl rfl Ty3 HCu.out) ?_
        simp only [pcX]
        refine zct rfl rfl rfl 64 rfl (.int .i64 (k : Int)) (by apply zlr <;> rfl) ?_
        simp only [pcX]
        refine zct rfl rfl rfl 65 rfl (.bool (decide (some l = some k))) (by exact zwj l k _ (by simp) rfl rfl rfl) ?_
        simp only [pcX]
        go_wp2_with fail
        go_meet
        case rel => exact ⟨by rw [HG.out]; simp, rfl⟩
      case rest =>
       obtain ⟨rfl, rfl⟩ := hcut
       clear HCi
       by_cases hlast : L.getLast? = some k
       ·have hb : decide (L.getLast? = some k) = true := decide_eq_true hlast
        rw [hb]
        have HLast := Hd hlast
        clear hlast hb
        go_wp2_with fail
        go_meet
        case rel =>
         have hl2 : (hfN (atN n (dirB v.dn v.dw) d) q).getLast? = some (atN n (dirB v.dn v.dw) d q / 2) := by rw [HL.out, HI.out, HKk.out]; exact HLast.out
         have he := zfy hl2
         exact ⟨U, cU, v2, by rw [he, HL.out], HoC.out, by rw [he, HL.out]; exact HoU.out, HIS.out.skip hl2, HCn2.out, HUn.out, HUc.out, HA2.out, HK2.out⟩
       ·have hb : decide (L.getLast? = some k) = false := decide_eq_false hlast
        rw [hb]
        have HLast := Hd hlast
        clear hlast hb
        have HNz := Hd (HS.nil wq)
        go_upto_region 18 with (first
         | (refine zcj rfl (.tmp 68) (.int .i64 (k : Int)) rfl rfl (fun w => zk4 _ w) HNz.out ?_; intro b5 w5 hb5 hc5 hbl hs; have HR5 := Hd (hs.row 0 rfl); have HB5 := Hd hbl; clear hs hbl)
         | (at_builtin; refine zba _ (.tmp 67) (.tmp 69) 139 w3.heap.size (e := 3) (z := .int .i64 0) (k := 1) (bytes := 8) (by kernel_rfl) Ty139 (by rfl) (by omega) rfl rfl (L.length + 1) (i64v fun j => (L ++ [k]).getD j 0) rfl rfl (HoU.out.all HB5.out) (Rd.of_row (n := 1 * 1) HR5.out lR HR5.out.lt) (fun _ _ => rfl) rfl (zk5 L k) ⟨by omega, by omega⟩ (lT hzq HB5.out.size) ?_; intro A6 c6 w6 ho6 hg6 ha6; have HO6 := Hd ho6; have HG6 := Hd hg6; have HA6 := Hd ha6; clear ho6 hg6 ha6))
        have hz35 : w3.heap.size ≤ w5.heap.size := lT hzq HB5.out.size
        have HIS6 : Hid (IS w3 w6 base T v v1 v2 n x d q) := Hd ((HIS.out.below HB5.out).grown HG6.out (fun b hb => ⟨(HoU.out.on hb).1, HUn.out b hb, fun hz => by
         rw [HIS.out.st.zA] at hz
         have h1 := H0.out.zlt hz
         have h2 := HB2.out.size
         have h3 := (HoU.out.on hb).1
         omega⟩))
        have HC6 : Hid (OwnZ w6 w2.heap.size 3 1 (some ⟨bc, 0, none⟩) len cC (i64v (atN n (dirB v.dn v.dw) d))) := Hd ((HoC.out.all HB5.out).kept HG6.out (fun ad e1 e2 => HUc.out _ (zeo e2) ⟨ad, e1, rfl⟩))
        have HUn6 : Hid (∀ b, OnA A6 b → ¬ v2.own T b) := Hd (fun b hb ho => by
         rcases zgp HA6.out b hb with h1 | h1
         ·exact HUn.out b h1 ho
         ·have := (HIS.out.tm.below HB5.out).lt ho; omega)
        have HUc6 : Hid (∀ b, OnA A6 b → ¬ OnA (some ⟨bc, 0, none⟩) b) := Hd (fun b hb hc => by
         rcases zgp HA6.out b hb with h1 | h1
         ·exact HUc.out b h1 hc
         ·have := ((HoC.out.all HB5.out).on hc).2; omega)
        have HP6 : Hid (ShaPkg w6) := Hd (HP3.out.base HpB.out (HIS6.out.st.below HM3.out lR HM3.out.base_le))
        clear HNz HR5 HB5 HG6 HA6 HoU HoC HIS HUn HUc
        obtain ⟨ga, hga⟩ : ∃ ga : Nat → Nat, ga = fun q => v1.g d (e * 32 + q) := ⟨_, rfl⟩
        obtain ⟨gb, hgb⟩ : ∃ gb : Nat → Nat, gb = fun q => if e1 < m then v1.g d (e1 * 32 + q) else zrN d q := ⟨_, rfl⟩
        obtain ⟨hh, hhh⟩ : ∃ hh, shaB (catN 32 ga gb) 64 = hh := ⟨_, rfl⟩
        have HGa8 : Hid (∀ q, ga q < 256) := Hd (fun q => by rw [hga]; exact HRS.out.g8 _ _)
        have HGb8 : Hid (∀ q, gb q < 256) := Hd (fun q => by
         rw [hgb]
         show (if e1 < m then v1.g d (e1 * 32 + q) else zrN d q) < 256
         split
         ·exact HRS.out.g8 _ _
         ·exact zfg d q)
        have HHe := Hd hhh
        have HH8 : Hid (∀ q, hh q < 256) := Hd (fun q => by rw [← hhh]; exact zfx _ _ q)
        have HHn : Hid (∀ r, r < 32 → hh r = nodN (d + 1) n x k r) := Hd (fun r hr => by
         rw [← hhh, hga]
         have h1 := zun (d := d) (n := n) (m := m) (x := x) (g := v1.g d) (by rw [← HMd.out]; exact HLv1.out) (i := i) (k := k) (by rw [← HI.out]; exact zme HQl.out) HKk.out (b := gb) (fun q hq => by
          rw [hgb]
          show (if e1 < m then _ else _) = _
          rw [← HE1.out, ← HE.out]) r hr
         rw [HE.out] at h1
         exact h1)
        have hlev : ∀ w', TM w' base T v2 → ∀ j, j < m * 32 → w'.cell? ⟨bd, j, none⟩ = some (u8v (v1.g d) j) := fun w' hm j hj => by
         have h1 : OwnZ w' base 24 32 (v2.lA d) (v2.lm d) (v2.lk d) (u8v (v2.g d)) := hm.lv d (by have := HDv.out; omega)
         have hs := HIS6.out.same d (by omega)
         rw [HA2.out, HBd.out, hs.1, hs.2, HMd.out] at h1
         have h2 := h1.rd.cells (i := j) hj
         rw [zai] at h2
         exact h2
        have HCe : Hid (∀ w', Below w6.heap.size w6 w' → ∀ q, q < 32 → w'.cell? ((⟨bd, e * 32, none⟩ : Addr).add q) = some (u8v ga q)) := Hd (fun w' hb q hq => by
         rw [zg6, hlev w' (HIS6.out.tm.below hb) (e * 32 + q) (by omega), hga])
        have HCf : Hid (e1 < m → ∀ w', Below w6.heap.size w6 w' → ∀ q, q < 32 → w'.cell? ((⟨bd, e1 * 32, none⟩ : Addr).add q) = some (u8v gb q)) := Hd (fun h w' hb q hq => by
         rw [zg6, hlev w' (HIS6.out.tm.below hb) (e1 * 32 + q) (by omega), hgb]
         simp only [u8v]; rw [if_pos h])
        have HCz : Hid (∀ w', Below w6.heap.size w6 w' → ∀ q, q < 32 → w'.cell? ((adz.add (d * 32)).add q) = some (u8v (zrN d) q)) := Hd (fun w' hb q hq => by
         have h1 := (HIS6.out.tm.below hb).zr
         rw [HZA.out, HDv.out] at h1
         have h2 := h1.cells (i := d * 32 + q) (by omega)
         rw [zb1, h2]
         simp only [u8v, zrsN]
         rw [show (d * 32 + q) / 32 = d by omega, show (d * 32 + q) % 32 = q by omega])
        have HC1 : Hid (∀ w', Below w6.heap.size w6 w' → w'.cell? ⟨T, 1, none⟩ = some (.slice (some adz) (D + 1) v2.zc)) := Hd (fun w' hb => by
         rw [(HIS6.out.tm.below hb).c1, HZA.out, HDv.out])
        have HGbz : Hid (¬ e1 < m → ∀ q, u8v (zrN d) q = u8v gb q) := Hd (fun h q => by
         rw [hgb]; simp only [u8v]; rw [if_neg h])
        clear hga hgb hhh hlev
        go_upto_region 18 with fail
        go_cut [11, 12] from 71 to 82 (fun x11 x12 wx => ∃ b11 b12, x11 = .pointer (some ⟨b11, 0, none⟩) ∧ x12 = .pointer (some ⟨b12, 0, none⟩) ∧ w6.heap.size ≤ b11 ∧ w6.heap.size ≤ b12 ∧ wx.rowIs b11 24 32 (u8v ga) ∧ wx.rowIs b12 24 32 (u8v (zrN d)) ∧ b11 ≠ b12 ∧ Below w6.heap.size w6 wx)
        case first =>
         refine zhy (l := [_, _, _, _, _, _, _, _, _, _, _, _, _, _, _]) (tl := [_]) (B := w6.heap.size) (w0 := w6) [OF.is (.slice (some ⟨bd, 0, none⟩) (m) (ck)), OF.is (.int .i64 ((k : Nat) : Int)), OF.is (.int .i64 ((e : Nat) : Int)), OF.is (.pointer (some ⟨bd, e * 32, none⟩)), OF.is (rootV ga), OF.is (.pointer (some ⟨T, 0, none⟩)), OF.is (.pointer (some ⟨T, 0, none⟩)), OF.is (.pointer (some ⟨T, 1, none⟩)), OF.is (.slice (some adz) (D + 1) (v2.zc)), OF.is (.int .i64 ((d : Nat) : Int)), OF.is (.pointer (some (adz.add (d * 32)))), OF.is (rootV (zrN d)), OF.new w6.heap.size 24 32 (u8v fun _ => 0), OF.new w6.heap.size 24 32 (u8v fun _ => 0), OF.new w6.heap.size 24 32 (u8v ga)] [none, none, none, none, none, none, none, none, none, none, none, none, none, none, some 11] [false, false, false, false, false, false, false, false, false, false, false, false, true, false, false] (by kernel_rfl) (by kernel_rfl) rfl lR (Below.refl _ _) ⟨?_, ?_, ?_, ?_, ?_, ?_, ?_, ?_, ?_, ?_, ?_, ?_, ?_, ?_, ?_, trivial⟩ ?_
         ·exact zat (by simp) (zau ((zaa _ rfl (.inl rfl) rfl)))
         ·exact zat (by simp) (zau ((zaa _ rfl (.inl rfl) rfl)))
         ·exact zat (by simp) (zau (za0 rfl rfl rfl OpK.const (oT rfl) (fun w => mul2I k e HE.out (by omega) w)))
         ·exact zat (by simp) (zau (zak rfl rfl (oT rfl) (oT rfl) (fun w => idxR w bd m ck e hem)))
         ·exact zat (by simp) (zau (zad rfl rfl (oT rfl) (fun w' hb => zbd w' _ 32 24 _ _ (HCe.out w' hb) Ty24 rfl s24)))
         ·exact zat (by simp) (zau ((zaa _ rfl (.inl rfl) rfl)))
         ·exact zat (by simp) (zau (zar _ rfl rfl (oT rfl)))
         ·exact zat (by simp) (zau (zal rfl rfl (oT rfl) (fun w => by simp [go_sem])))
         ·exact zat (by simp) (zau (zad rfl rfl (oT rfl) (fun w' hb => PickDraw.za3 w' _ _ _ _ (HC1.out w' hb) Ty32)))
         ·exact zat (by simp) (zau ((zaa _ rfl (.inl rfl) rfl)))
         ·exact zat (by simp) (zau (zak rfl rfl (oT rfl) (oT rfl) (fun w => zaw (z := 32) w Ty32 (by kernel_rfl) adz (by omega))))
         ·exact zat (by simp) (zau (zad rfl rfl (oT rfl) (fun w' hb => zbd w' _ 32 24 _ _ (HCz.out w' hb) Ty24 rfl s24)))
         ·exact zat (by simp) (zhs w6.heap.size rfl rfl _ z24 32 (u8v fun _ => 0) n24 f24 lR)
         ·exact zat (by simp) (zhs w6.heap.size rfl rfl _ z24 32 (u8v fun _ => 0) n24 f24 lR)
         ·exact zk7 w6.heap.size lR rfl rfl rfl rfl rfl (by kernel_rfl) (fun _ _ => rfl)
         ·intro w' hb
          simp only [finQ, OF.is, OF.new, forall_eq]
          simp only [pcX]
          rintro v11 _ ⟨b12, rfl, hb12, hr12⟩ ⟨b11, hv11, hb11, hr11⟩ hdis
          obtain rfl : v11 = .pointer (some ⟨b11, 0, none⟩) := hv11
          have hne : b11 ≠ b12 := fun e => hdis 14 13 _ _ b11 rfl rfl rfl rfl (by omega) rfl (by rw [e]; rfl)
          clear hdis
          have hsx := ((HS.nil w6).below hb).add hr12 hb12 (by simp)
          have HSx := Hd (hsx.add hr11 hb11 (by simp; exact fun e => hne e.symm))
          clear hsx hb hr11 hr12
          refine zga 24 (.tmp 12) (.tmp 82) rfl HSx.out 1 rfl (u8v (zrN d)) rfl rfl (by kernel_rfl) (fun _ _ => rfl) ?_
          intro ws hs
          have HSs := Hd hs
          clear hs
          simp only [seqWp, Act.put]
          go_wp2_with fail
          go_meet
          case rel => exact ⟨b11, b12, rfl, rfl, hb11, hb12, HSs.out.row 0 rfl, HSs.out.row 1 rfl, hne, HSs.out.out (by simp; omega)⟩
        case rest =>
         obtain ⟨b11, b12, rfl, rfl, hb11, hb12, hr11, hr12, hne, hbl⟩ := hcut
         have hsx := ((HS.nil w6).below hbl).add hr12 hb12 (by simp)
         have hsy := hsx.add hr11 hb11 (by simp; exact fun e => hne e.symm)
         have HS7 := Hd hsy
         clear hsx hsy hbl hr11 hr12 hne
         go_upto_if 88 with (first
          | (refine zab rfl 84 rfl (.int .i64 (e : Int)) ?_ ?_; (· exact za1 rfl rfl rfl rfl (fun w => mul2I k e HE.out (by omega) w) _))
          | (refine zab rfl 85 rfl (.int .i64 (e1 : Int)) ?_ ?_; (· exact za1 rfl rfl rfl rfl (fun w => add1I e e1 HE1.out (by omega) w) _)))
         go_cut [] from 88 to 94 (fun wx => HS w6 wx [⟨b11, 24, 32, u8v ga⟩, ⟨b12, 24, 32, u8v gb⟩])
         case first =>
          by_cases h2m : e1 < m
          ·go_wp2_with (first
            | (refine zab rfl 91 rfl (.int .i64 (e : Int)) ?_ ?_; (· exact za1 rfl rfl rfl rfl (fun w => mul2I k e HE.out (by omega) w) _))
            | (refine zab rfl 92 rfl (.int .i64 (e1 : Int)) ?_ ?_; (· exact za1 rfl rfl rfl rfl (fun w => add1I e e1 HE1.out (by omega) w) _))
            | (refine zab rfl 93 rfl (.pointer (some ⟨bd, e1 * 32, none⟩)) ?_ ?_; (· exact zbb rfl rfl rfl (fun w => idxR w bd m ck e1 h2m) _))
            | (refine zae rfl 24 (.tmp 93) rfl 32 _ Ty24 rfl s24 ⟨bd, e1 * 32, none⟩ rfl (u8v gb) (HCf.out h2m _ (HS7.out.out (by simp; omega))) ?_)
            | (refine zaf rfl 24 (.tmp 12) (.tmp 94) rfl HS7.out 1 rfl (u8v gb) rfl rfl (by kernel_rfl) (fun _ _ => rfl) ?_; intro w8 hs; have HS8 := Hd hs; clear hs))
           go_meet
           case rel => exact HS8.out
          ·go_wp2_with fail
           go_meet
           case rel => exact HS7.out.congr 1 rfl (fun q _ => HGbz.out h2m q)
         case rest =>
          have HS8 := Hd hcut
          clear hcut HS7
          obtain ⟨H2, hH2⟩ : ∃ H2, v2.H = H2 := ⟨_, rfl⟩
          have hH2b : H2 < 2305843009213693952 := by
           have h1 := HIS6.out.H
           have h2 := HRS.out.H
           have h3 := zmf n (dirB v.dn v.dw) d
           rw [HL.out, hH2, h2] at h1
           omega
          have HH2 := Hd hH2
          clear hH2
          go_upto_region 23 with (first
           | (refine zae rfl 24 (.tmp 11) rfl 32 _ Ty24 rfl s24 ⟨b11, 0, none⟩ rfl (u8v ga) (fun i hi => by rw [zai]; exact HS8.out.cell 0 i rfl hi) ?_)
           | (refine zae rfl 24 (.tmp 12) rfl 32 _ Ty24 rfl s24 ⟨b12, 0, none⟩ rfl (u8v gb) (fun i hi => by rw [zai]; exact HS8.out.cell 1 i rfl hi) ?_)
           | (go_at_call 33; refine (zem ga gb HGa8.out HGb8.out _ (HP6.out.below (HS8.out.out (by simp; omega)))).mono ?_; rintro r w9 ⟨rfl, hb9⟩; have HS9 := Hd (HS8.out.below hb9); rw [HHe.out]; clear hb9)
           | (refine zac rfl 24 13 rfl rfl HS9.out _ z24 32 (u8v fun _ => 0) n24 f24 ?_; intro b13 w10 hb13 hc13 hs; have HS10 := Hd hs; clear hs)
           | (refine zaf rfl 24 (.tmp 13) (.tmp 97) rfl HS10.out 0 rfl (u8v hh) rfl rfl (by kernel_rfl) (fun _ _ => rfl) ?_; intro w11 hs; have HR11 := Hd (hs.row 0 rfl); have HB11 := Hd (hs.out (by simp; omega)); have HM11 := Hd (HIS6.out.tm.below (hs.out (by simp; omega))); clear hs)
           | (refine zab rfl 101 rfl (.int .i64 (H2 : Int)) ?_ ?_; (· exact zbf .i64 rfl rfl Ty3 (by rw [HM11.out.c4, HH2.out])))
           | (refine zab rfl 102 rfl (.int .i64 ((H2 + 1 : Nat) : Int)) ?_ ?_; (· exact za1 rfl rfl rfl rfl (fun w => add1I H2 (H2 + 1) rfl (by omega) w) _))
           | (refine zdu rfl 3 (.tmp 104) (.tmp 102) rfl HM11.out.row 4 (by omega) (.int .i64 ((H2 + 1 : Nat) : Int)) (stI _) rfl rfl ?_))
          have hT13 : b13 ≠ T := fun e => by
           have := HIS6.out.tm.row.lt
           omega
          have HMy0 : Hid (TM (w11.setCell ⟨T, 4, none⟩ (.int .i64 ((H2 + 1 : Nat) : Int))) base T { v2 with H := H2 + 1 }) := Hd (HM11.out.setH (H2 + 1))
          have HRy0 : Hid ((w11.setCell ⟨T, 4, none⟩ (.int .i64 ((H2 + 1 : Nat) : Int))).rowIs b13 24 32 (u8v hh)) := Hd (HR11.out.of_block (Below.heap_setCell w11 _ _ b13 hT13))
          have HSy0 : Hid (TStep w6 (w11.setCell ⟨T, 4, none⟩ (.int .i64 ((H2 + 1 : Nat) : Int))) T v2 { v2 with H := H2 + 1 }) := Hd ((TStep.refl HB11.out).trans (TStep.ofH (T := T) (v := v2) (H2 + 1)))
          generalize w11.setCell ⟨T, 4, none⟩ (.int .i64 ((H2 + 1 : Nat) : Int)) = wy at HMy0 HRy0 HSy0 ⊢
          have HMy := Hd HMy0.out
          have HRy := Hd HRy0.out
          have HSy := Hd HSy0.out
          clear HMy0 HRy0 HSy0 HS8 HS9 HS10 HR11 HB11 HM11
          obtain ⟨A2, hA2⟩ : ∃ A2, v2.lA (d + 1) = A2 := ⟨_, rfl⟩
          obtain ⟨m2, hm22⟩ : ∃ m2, v2.lm (d + 1) = m2 := ⟨_, rfl⟩
          obtain ⟨k2, hk22⟩ : ∃ k2, v2.lk (d + 1) = k2 := ⟨_, rfl⟩
          rw [hm22] at hm2
          have hm2b : m2 ≤ 1073741824 := by
           have h1 := HIS6.out.part.1
           have h2 := TreeCopy.zik n (d + 1)
           rw [hm22] at h1
           omega
          have HL2 : Hid (∀ w', TM w' base T { v2 with H := H2 + 1 } → w'.cell? ⟨T, 2, none⟩ = some (.slice (some ⟨v2.lb, 0, none⟩) (D + 1) v2.lc)) := Hd (fun w' hm => by
           rw [hm.c2]
           show some (Value.slice _ (v2.D + 1) _) = _
           rw [HDv.out])
          have HL3 : Hid (∀ w', TM w' base T { v2 with H := H2 + 1 } → w'.cell? ⟨v2.lb, d + 1, none⟩ = some (.slice A2 m2 k2)) := Hd (fun w' hm => by
           have h1 := hm.level (k := d + 1) (by show d + 1 ≤ v2.D; have := HDv.out; omega)
           rw [h1]
           show some (Value.slice (v2.lA (d + 1)) (v2.lm (d + 1)) (v2.lk (d + 1))) = _
           rw [hA2, hm22, hk22])
          have HLO : Hid (∀ w', TM w' base T { v2 with H := H2 + 1 } → OwnZ w' base 24 32 A2 m2 k2 (u8v (v2.g (d + 1)))) := Hd (fun w' hm => by
           have h1 : OwnZ w' base 24 32 (v2.lA (d + 1)) (v2.lm (d + 1)) (v2.lk (d + 1)) (u8v (v2.g (d + 1))) := hm.lv (d + 1) (by show d + 1 ≤ v2.D; have := HDv.out; omega)
           rw [hA2, hm22, hk22] at h1
           exact h1)
          have HC2V : Hid (∀ w' : World, w'.rowIs T 136 5 (TV.F { v2 with H := H2 + 1 }) → w'.cell? ⟨T, 2, none⟩ = some (.slice (some ⟨v2.lb, 0, none⟩) (D + 1) v2.lc)) := Hd (fun w' hr => by
           rw [hr.cell (show 2 < 5 by omega)]
           show some (Value.slice _ (v2.D + 1) _) = _
           rw [HDv.out])
          have HA22 := Hd hA2
          have HM22 := Hd hm22
          have HK22 := Hd hk22
          clear hA2 hm22 hk22
          have HFin : Hid (∀ wx v3, IS w3 wx base T v v1 v3 n x d (q + 1) → TStep w6 wx T v2 v3 → v3.lA d = v2.lA d → v3.lk d = v2.lk d → ∃ U' cU' v3, Value.slice A6 (L.length + 1) c6 = .slice U' (hfN (atN n (dirB v.dn v.dw) d) (q + 1)).length cU' ∧ OwnZ wx w2.heap.size 3 1 (some ⟨bc, 0, none⟩) len cC (i64v (atN n (dirB v.dn v.dw) d)) ∧ OwnZ wx w3.heap.size 3 1 U' (hfN (atN n (dirB v.dn v.dw) d) (q + 1)).length cU' (i64v fun j => (hfN (atN n (dirB v.dn v.dw) d) (q + 1)).getD j 0) ∧ IS w3 wx base T v v1 v3 n x d (q + 1) ∧ (∀ b, OnA (some ⟨bc, 0, none⟩) b → ¬ v3.own T b) ∧ (∀ b, OnA U' b → ¬ v3.own T b) ∧ (∀ b, OnA U' b → ¬ OnA (some ⟨bc, 0, none⟩) b) ∧ v3.lA d = v1.lA d ∧ v3.lk d = v1.lk d) := Hd (fun wx v3 hi hs hA hK => by
           have hl2 : (hfN (atN n (dirB v.dn v.dw) d) q).getLast? ≠ some (atN n (dirB v.dn v.dw) d q / 2) := by rw [HL.out, HI.out, HKk.out]; exact HLast.out
           have he := zfz hl2
           rw [HL.out, HI.out, HKk.out] at he
           have hlen : (L ++ [k]).length = L.length + 1 := by simp
           have keep : ∀ {b : Nat}, b < w6.heap.size → ¬ v2.own T b → ¬ v3.own T b := fun hb hn ho => by
            rcases hs.new _ ho with h1 | h1
            ·exact hn h1
            ·omega
           refine ⟨A6, c6, v3, by rw [he, hlen], hs.chg.own HC6.out (fun ad e => HCn2.out _ ⟨ad, e, rfl⟩), ?_, hi, fun b hb => keep (HC6.out.on hb).2 (HCn2.out b hb), fun b hb => keep (HO6.out.on hb).2 (HUn6.out b hb), HUc6.out, hA.trans HA2.out, hK.trans HK2.out⟩
           rw [he, hlen]
           exact hs.chg.own HO6.out (fun ad e => HUn6.out _ ⟨ad, e, rfl⟩))
          have HPutA := Hd (fun (wx : World) (v3 : TV) (m' : Nat) (g' : Nat → Nat) (htm : TM wx base T v3) (hst : TStep w6 wx T v2 v3) h1 h2 h3 h4 h5 h6 h7 h8 h9 => IS.put (v3 := v3) (m' := m') (g' := g') HIS6.out HQl.out (by rw [HL.out, HI.out, HKk.out]; exact HLast.out) htm hst h1 h2 h3 h4 h5 h6 h7 h8 h9)
          have HFinB : Hid (k < m2 → ∀ wx, TM wx base T { v2 with H := H2 + 1, g := fun j => if j = d + 1 then setN (v2.g (d + 1)) k hh else v2.g j } → TStep wy wx T { v2 with H := H2 + 1 } { v2 with H := H2 + 1, g := fun j => if j = d + 1 then setN (v2.g (d + 1)) k hh else v2.g j } → ∃ U' cU' v3, Value.slice A6 (L.length + 1) c6 = .slice U' (hfN (atN n (dirB v.dn v.dw) d) (q + 1)).length cU' ∧ OwnZ wx w2.heap.size 3 1 (some ⟨bc, 0, none⟩) len cC (i64v (atN n (dirB v.dn v.dw) d)) ∧ OwnZ wx w3.heap.size 3 1 U' (hfN (atN n (dirB v.dn v.dw) d) (q + 1)).length cU' (i64v fun j => (hfN (atN n (dirB v.dn v.dw) d) (q + 1)).getD j 0) ∧ IS w3 wx base T v v1 v3 n x d (q + 1) ∧ (∀ b, OnA (some ⟨bc, 0, none⟩) b → ¬ v3.own T b) ∧ (∀ b, OnA U' b → ¬ v3.own T b) ∧ (∀ b, OnA U' b → ¬ OnA (some ⟨bc, 0, none⟩) b) ∧ v3.lA d = v1.lA d ∧ v3.lk d = v1.lk d) := Hd (fun hkm wx hm hs => by
           refine HFin.out wx _ (HPutA.out wx _ m2 (setN (v2.g (d + 1)) k hh) hm (HSy.out.trans hs) ?_ ?_ ?_ rfl rfl ?_ ?_ ?_ ?_) (HSy.out.trans hs) ?_ ?_
           ·intro j
            show v2.lm j = _
            by_cases e : j = d + 1
            ·rw [if_pos e, e, HM22.out]
            ·rw [if_neg e]
           ·intro j; rfl
           ·show H2 + 1 = v2.H + 1
            rw [HH2.out]
           ·rw [HI.out, HKk.out, HM22.out, if_pos hkm]
           ·intro r hr
            rw [HI.out, HKk.out]
            show setN _ k hh (k * 32 + r) = _
            unfold setN
            rw [if_pos (by omega), show k * 32 + r - k * 32 = r by omega]
            exact HHn.out r hr
           ·intro j hj hjk r hr
            rw [HI.out, HKk.out] at hjk
            show setN _ k hh (j * 32 + r) = _
            unfold setN
            rw [if_neg (by omega)]
           ·intro j
            unfold setN
            split
            ·exact HH8.out _
            ·exact HIS6.out.g8 _ _
           ·rfl
           ·rfl)
          have HFinA : Hid (¬ k < m2 → ∀ wx A8 c8, TM wx base T { v2 with H := H2 + 1, lA := fun j => if j = d + 1 then A8 else v2.lA j, lm := fun j => if j = d + 1 then m2 + 1 else v2.lm j, lk := fun j => if j = d + 1 then c8 else v2.lk j, g := fun j => if j = d + 1 then appN (v2.g (d + 1)) m2 hh else v2.g j } → TStep wy wx T { v2 with H := H2 + 1 } { v2 with H := H2 + 1, lA := fun j => if j = d + 1 then A8 else v2.lA j, lm := fun j => if j = d + 1 then m2 + 1 else v2.lm j, lk := fun j => if j = d + 1 then c8 else v2.lk j, g := fun j => if j = d + 1 then appN (v2.g (d + 1)) m2 hh else v2.g j } → ∃ U' cU' v3, Value.slice A6 (L.length + 1) c6 = .slice U' (hfN (atN n (dirB v.dn v.dw) d) (q + 1)).length cU' ∧ OwnZ wx w2.heap.size 3 1 (some ⟨bc, 0, none⟩) len cC (i64v (atN n (dirB v.dn v.dw) d)) ∧ OwnZ wx w3.heap.size 3 1 U' (hfN (atN n (dirB v.dn v.dw) d) (q + 1)).length cU' (i64v fun j => (hfN (atN n (dirB v.dn v.dw) d) (q + 1)).getD j 0) ∧ IS w3 wx base T v v1 v3 n x d (q + 1) ∧ (∀ b, OnA (some ⟨bc, 0, none⟩) b → ¬ v3.own T b) ∧ (∀ b, OnA U' b → ¬ v3.own T b) ∧ (∀ b, OnA U' b → ¬ OnA (some ⟨bc, 0, none⟩) b) ∧ v3.lA d = v1.lA d ∧ v3.lk d = v1.lk d) := Hd (fun hkm wx A8 c8 hm hs => by
           refine HFin.out wx _ (HPutA.out wx _ (m2 + 1) (appN (v2.g (d + 1)) m2 hh) hm (HSy.out.trans hs) ?_ ?_ ?_ rfl rfl ?_ ?_ ?_ ?_) (HSy.out.trans hs) ?_ ?_
           ·intro j; rfl
           ·intro j; rfl
           ·show H2 + 1 = v2.H + 1
            rw [HH2.out]
           ·rw [HI.out, HKk.out, HM22.out, if_neg hkm]
           ·intro r hr
            rw [HI.out, HKk.out]
            have hkm2 : k = m2 := by omega
            subst hkm2
            unfold appN catN
            rw [if_neg (by omega), show k * 32 + r - k * 32 = r by omega]
            exact HHn.out r hr
           ·intro j hj hjk r hr
            rw [HM22.out] at hj
            unfold appN catN
            rw [if_pos (by omega)]
           ·intro j
            unfold appN catN
            split
            ·exact HIS6.out.g8 _ _
            ·exact HH8.out _
           ·show (if d = d + 1 then A8 else v2.lA d) = v2.lA d
            rw [if_neg (by omega)]
           ·show (if d = d + 1 then c8 else v2.lk d) = v2.lk d
            rw [if_neg (by omega)])
          go_upto_if 115 with (first
           | (refine zab rfl 109 rfl (.slice (some ⟨v2.lb, 0, none⟩) (D + 1) v2.lc) ?_ ?_; (· exact zan rfl rfl Ty134 (HL2.out _ HMy.out) rfl))
           | (refine zab rfl 111 rfl (.int .i64 ((d + 1 : Nat) : Int)) ?_ ?_; (· exact za1 rfl rfl rfl rfl (fun w => add1I d (d + 1) rfl (by omega) w) _))
           | (refine zab rfl 112 rfl (.pointer (some ⟨v2.lb, d + 1, none⟩)) ?_ ?_; (· exact zbb rfl rfl rfl (fun w => ixL w _ _ _ (d + 1) (by omega)) _))
           | (refine zab rfl 113 rfl (.slice A2 m2 k2) ?_ ?_; (· exact zan rfl rfl Ty32 (HL3.out _ HMy.out) rfl)))
          by_cases hkm : k < m2
          ·obtain ⟨bl, rfl⟩ := zdv (HLO.out _ HMy.out) (by omega)
           have hk2 := hkm
           go_upto_region 24 with fail
           refine zao (l := [_, _, _, _, _, _, _, _, _, _, _]) (tl := []) (B := wy.heap.size) (w0 := wy) [sI (.pointer (some ⟨T, 0, none⟩)), sI (.pointer (some ⟨T, 0, none⟩)), sI (.pointer (some ⟨T, 2, none⟩)), sI (.slice (some ⟨v2.lb, 0, none⟩) (D + 1) (v2.lc)), sI (.int .i64 ((d : Nat) : Int)), sI (.int .i64 ((d + 1 : Nat) : Int)), sI (.pointer (some ⟨v2.lb, d + 1, none⟩)), sI (.slice (some ⟨bl, 0, none⟩) (m2) (k2)), sI (.int .i64 ((k : Nat) : Int)), sI (rootV hh), sI (.pointer (some ⟨bl, k * 32, none⟩))] (by kernel_rfl) (by kernel_rfl) rfl lR (Below.refl _ _) ⟨?_, ?_, ?_, ?_, ?_, ?_, ?_, ?_, ?_, ?_, ?_, trivial⟩ ?_
           ·exact (zaa _ rfl (.inl rfl) rfl)
           ·exact zar _ rfl rfl (oT rfl)
           ·exact zal rfl rfl (oT rfl) (fun w => by simp [go_sem])
           ·exact zad rfl rfl (oT rfl) (fun w' hb => PickDraw.za3 w' _ _ _ _ (HL2.out w' (HMy.out.below hb)) Ty134)
           ·exact (zaa _ rfl (.inl rfl) rfl)
           ·exact za0 rfl rfl rfl (oT rfl) OpK.const (fun w => add1I d (d + 1) rfl (by omega) w)
           ·exact zak rfl rfl (oT rfl) (oT rfl) (fun w => ixL w _ _ _ (d + 1) (by omega))
           ·exact zad rfl rfl (oT rfl) (fun w' hb => PickDraw.za3 w' _ _ _ _ (HL3.out w' (HMy.out.below hb)) Ty32)
           ·exact (zaa _ rfl (.inl rfl) rfl)
           ·exact zad rfl rfl (oT rfl) (fun w' hb => zd2 HRy.out HRy.out.lt Ty24 rfl s24 w' hb)
           ·exact zak rfl rfl (oT rfl) (oT rfl) (fun w => idxR w bl m2 k2 k hk2)
           ·intro w' hb
            simp only [fin, sI, forall_eq]
            simp only [pcX]
            have HMz := Hd (HMy.out.below hb)
            have HBz := Hd hb
            have hov := HLO.out _ HMz.out
            clear hb
            refine zk3 24 (.tmp 126) (.tmp 125) rfl hov (k * 32) 32 (u8v hh) rfl rfl (by kernel_rfl) (by omega) (fun _ _ => rfl) (u8v (setN (v2.g (d + 1)) k hh)) (zqq (v2.g (d + 1)) hh k _) ?_
            intro w8 ho hg
            have HM8 := Hd (HMz.out.setG (k := d + 1) (by show d + 1 ≤ v2.D; have := HDv.out; omega) (g' := setN (v2.g (d + 1)) k hh) (by show World.grownBy _ _ ((v2.lA (d + 1)).map (·.block)); rw [HA22.out]; exact hg) (by show OwnZ _ _ _ _ (v2.lA (d + 1)) (v2.lm (d + 1)) (v2.lk (d + 1)) _; rw [HA22.out, HM22.out, HK22.out]; exact ho))
            have HS8 := Hd ((TStep.refl (T := T) (v := { v2 with H := H2 + 1 }) HBz.out).trans (TStep.ofG (T := T) (v := { v2 with H := H2 + 1 }) (k := d + 1) (by show d + 1 ≤ v2.D; have := HDv.out; omega) (g' := fun j => if j = d + 1 then setN (v2.g (d + 1)) k hh else v2.g j) (by show World.grownBy _ _ ((v2.lA (d + 1)).map (·.block)); rw [HA22.out]; exact hg)))
            clear hov ho hg
            simp only [seqWp, Act.put]
            go_wp2_with fail
            go_meet
            case rel => exact HFinB.out hkm _ HM8.out HS8.out
          ·go_upto_region 25 with fail
           as_aux_lemma =>
            refine zcu (n := 19) (by kernel_rfl) (by kernel_rfl) ?_
            have HMv0 : Hid (TM wy.drew base T { v2 with H := H2 + 1 }) := Hd (HMy.out.below ⟨rfl, rfl, rfl, Nat.le_refl _, fun _ _ => rfl⟩)
            have HRv0 : Hid (wy.drew.rowIs b13 24 32 (u8v hh)) := Hd HRy.out
            have HBv0 : Hid (Below wy.heap.size wy wy.drew) := Hd ⟨rfl, rfl, rfl, Nat.le_refl _, fun _ _ => rfl⟩
            generalize wy.drew = wv at HMv0 HRv0 HBv0 ⊢
            have HMv := Hd HMv0.out
            have HRv := Hd HRv0.out
            have HBv := Hd HBv0.out
            clear HMv0 HRv0 HBv0
            refine zas (i := 0) (tpV T) rfl (by kernel_rfl) (by kernel_rfl) (by decide +kernel) rfl (fun _ _ _ h => h) (zce (.inl rfl) rfl) ?_
            simp only [pcX]
            refine zas (i := 4) (.int .i64 (d : Int)) rfl (by kernel_rfl) (by kernel_rfl) (by decide +kernel) rfl (fun _ _ _ h => h) (zce (.inl rfl) rfl) ?_
            simp only [pcX]
            refine zas (i := 6) (tpV T) rfl (by kernel_rfl) (by kernel_rfl) (by decide +kernel) rfl (fun _ _ _ h => h) (zce (.inl rfl) rfl) ?_
            simp only [pcX]
            refine zas (i := 10) (.int .i64 (d : Int)) rfl (by kernel_rfl) (by kernel_rfl) (by decide +kernel) rfl (fun _ _ _ h => h) (zce (.inl rfl) rfl) ?_
            simp only [pcX]
            refine zas (i := 1) (tpV T) rfl (by kernel_rfl) (by kernel_rfl) (by decide +kernel) rfl (fun _ _ _ h => h) (zcx rfl rfl) ?_
            simp only [pcX]
            refine zas (i := 5) (.int .i64 ((d + 1 : Nat) : Int)) rfl (by kernel_rfl) (by kernel_rfl) (by decide +kernel) rfl (fun _ _ _ h => h) (za1 rfl rfl rfl rfl (fun w => add1I d (d + 1) rfl (by omega) w)) ?_
            simp only [pcX]
            refine zas (i := 7) (tpV T) rfl (by kernel_rfl) (by kernel_rfl) (by decide +kernel) rfl (fun _ _ _ h => h) (zcx rfl rfl) ?_
            simp only [pcX]
            refine zas (i := 11) (.int .i64 ((d + 1 : Nat) : Int)) rfl (by kernel_rfl) (by kernel_rfl) (by decide +kernel) rfl (fun _ _ _ h => h) (za1 rfl rfl rfl rfl (fun w => add1I d (d + 1) rfl (by omega) w)) ?_
            simp only [pcX]
            refine zas (i := 2) (.pointer (some ⟨T, 2, none⟩)) rfl (by kernel_rfl) (by kernel_rfl) (by decide +kernel) rfl (fun _ _ _ h => h) (zbh rfl rfl (fun w => by simp [go_sem])) ?_
            simp only [pcX]
            refine zas (i := 8) (.pointer (some ⟨T, 2, none⟩)) rfl (by kernel_rfl) (by kernel_rfl) (by decide +kernel) rfl (fun _ _ _ h => h) (zbh rfl rfl (fun w => by simp [go_sem])) ?_
            simp only [pcX]
            refine zcq (i := 3) (j := 9) (k := 14) rfl rfl rfl (by decide +kernel) rfl rfl rfl (fun K h3 => ?_) (fun K h9 => ?_) (fun K h14 => ?_)
            repeat' (first
             | (revert h3; intro hK; refine zdd (.slice (some ⟨v2.lb, 0, none⟩) (D + 1) v2.lc) (by first | exact zan rfl rfl Ty134 (HL2.out _ HMv.out) rfl | exact zan rfl rfl Ty134 (HC2V.out _ (HMv.out.rowD (r0 := d + 1 + 3) (by omega) (fun b hb => ⟨by show d + 1 ≤ v2.D; have := HDv.out; omega, hb⟩) HG8.out)) rfl) ?_; refine hK _ _ ?_; clear hK; simp only [pcX]; (try (refine zas (i := 17) (.pointer (some ⟨v2.lb, d + 1, none⟩)) rfl (by kernel_rfl) (by kernel_rfl) (by decide +kernel) rfl (fun _ _ _ h => h) (zbb rfl rfl rfl (fun w => ixL w _ _ _ (d + 1) (by omega))) ?_; simp only [pcX])); (first | refine zah (i := 14) rfl (by decide +kernel) rfl (fun K h14 => ?_) | refine zah (i := 15) rfl (by decide +kernel) rfl (fun K h15 => ?_) | refine zah (i := 16) rfl (by decide +kernel) rfl (fun K h16 => ?_) | refine zah (i := 18) rfl (by decide +kernel) rfl (fun K h18 => ?_) | refine zah (i := 13) rfl (by decide +kernel) rfl (fun K h13 => ?_) | refine zah (i := 9) rfl (by decide +kernel) rfl (fun K h9 => ?_) | refine zay (i := 9) (j := 14) rfl rfl (by decide +kernel) rfl rfl (fun K h9 => ?_) (fun K h14 => ?_) | refine zay (i := 13) (j := 14) rfl rfl (by decide +kernel) rfl rfl (fun K h13 => ?_) (fun K h14 => ?_) | refine zay (i := 13) (j := 15) rfl rfl (by decide +kernel) rfl rfl (fun K h13 => ?_) (fun K h15 => ?_) | refine zay (i := 9) (j := 15) rfl rfl (by decide +kernel) rfl rfl (fun K h9 => ?_) (fun K h15 => ?_)))
             | (revert h9; intro hK; refine zdd (.slice (some ⟨v2.lb, 0, none⟩) (D + 1) v2.lc) (by first | exact zan rfl rfl Ty134 (HL2.out _ HMv.out) rfl | exact zan rfl rfl Ty134 (HC2V.out _ (HMv.out.rowD (r0 := d + 1 + 3) (by omega) (fun b hb => ⟨by show d + 1 ≤ v2.D; have := HDv.out; omega, hb⟩) HG8.out)) rfl) ?_; refine hK _ _ ?_; clear hK; simp only [pcX]; refine zas (i := 12) (.pointer (some ⟨v2.lb, d + 1, none⟩)) rfl (by kernel_rfl) (by kernel_rfl) (by decide +kernel) rfl (fun _ _ _ h => h) (zbb rfl rfl rfl (fun w => ixL w _ _ _ (d + 1) (by omega))) ?_; simp only [pcX]; (first | refine zah (i := 13) rfl (by decide +kernel) rfl (fun K h13 => ?_) | refine zay (i := 13) (j := 14) rfl rfl (by decide +kernel) rfl rfl (fun K h13 => ?_) (fun K h14 => ?_) | refine zay (i := 13) (j := 15) rfl rfl (by decide +kernel) rfl rfl (fun K h13 => ?_) (fun K h15 => ?_) | refine zay (i := 3) (j := 13) rfl rfl (by decide +kernel) rfl rfl (fun K h3 => ?_) (fun K h13 => ?_) | refine zcq (i := 3) (j := 13) (k := 14) rfl rfl rfl (by decide +kernel) rfl rfl rfl (fun K h3 => ?_) (fun K h13 => ?_) (fun K h14 => ?_) | refine zcq (i := 3) (j := 13) (k := 15) rfl rfl rfl (by decide +kernel) rfl rfl rfl (fun K h3 => ?_) (fun K h13 => ?_) (fun K h15 => ?_)))
             | (revert h13; intro hK; refine zdd (.slice A2 m2 k2) (zan rfl rfl Ty32 (HL3.out _ HMv.out) rfl) ?_; refine hK _ _ ?_; clear hK; simp only [pcX]; (first | refine zah (i := 14) rfl (by decide +kernel) rfl (fun K h14 => ?_) | refine zah (i := 15) rfl (by decide +kernel) rfl (fun K h15 => ?_) | refine zah (i := 16) rfl (by decide +kernel) rfl (fun K h16 => ?_) | refine zay (i := 3) (j := 14) rfl rfl (by decide +kernel) rfl rfl (fun K h3 => ?_) (fun K h14 => ?_) | refine zay (i := 3) (j := 15) rfl rfl (by decide +kernel) rfl rfl (fun K h3 => ?_) (fun K h15 => ?_) | refine zay (i := 3) (j := 16) rfl rfl (by decide +kernel) rfl rfl (fun K h3 => ?_) (fun K h16 => ?_)))
             | (revert h14; intro hK; refine zdd (rootV hh) (zmh 32 (u8v hh) rfl rfl (fun q hq => by rw [zai]; exact HRv.out.cell hq) Ty24 rfl s24) ?_; refine hK _ _ ?_; clear hK; simp only [pcX]; (first | refine zah (i := 15) rfl (by decide +kernel) rfl (fun K h15 => ?_) | refine zay (i := 13) (j := 15) rfl rfl (by decide +kernel) rfl rfl (fun K h13 => ?_) (fun K h15 => ?_) | refine zay (i := 9) (j := 15) rfl rfl (by decide +kernel) rfl rfl (fun K h9 => ?_) (fun K h15 => ?_) | refine zay (i := 3) (j := 15) rfl rfl (by decide +kernel) rfl rfl (fun K h3 => ?_) (fun K h15 => ?_) | refine zcq (i := 3) (j := 13) (k := 15) rfl rfl rfl (by decide +kernel) rfl rfl rfl (fun K h3 => ?_) (fun K h13 => ?_) (fun K h15 => ?_) | refine zcq (i := 3) (j := 9) (k := 15) rfl rfl rfl (by decide +kernel) rfl rfl rfl (fun K h3 => ?_) (fun K h9 => ?_) (fun K h15 => ?_)))
             | (revert h15; intro hK; refine zci Ty32 s24 (by omega) (by omega) z24 _ rfl (u8v hh) rfl (HS.nil _) ?_; intro b7 w7 hb7 hc7 hs; have HR7 := Hd (hs.row 0 rfl); have HB7 := Hd (hs.out (by simp; omega)); have HM7 := Hd (HMv.out.below HB7.out); clear hs HMv; have HMv := Hd HM7.out; clear HM7; refine hK _ _ ?_; clear hK; simp only [pcX]; (first | refine zah (i := 16) rfl (by decide +kernel) rfl (fun K h16 => ?_) | refine zah (i := 13) rfl (by decide +kernel) rfl (fun K h13 => ?_) | refine zah (i := 9) rfl (by decide +kernel) rfl (fun K h9 => ?_) | refine zay (i := 3) (j := 16) rfl rfl (by decide +kernel) rfl rfl (fun K h3 => ?_) (fun K h16 => ?_) | refine zay (i := 3) (j := 13) rfl rfl (by decide +kernel) rfl rfl (fun K h3 => ?_) (fun K h13 => ?_) | refine zay (i := 3) (j := 9) rfl rfl (by decide +kernel) rfl rfl (fun K h3 => ?_) (fun K h9 => ?_)))
             | (revert h16; intro hK; refine zdy _ (.tmp 140) (.tmp 142) 32 base i24 Ty32 (by rfl) (by omega) rfl (m2 + 1) (u8v (appN (v2.g (d + 1)) m2 hh)) rfl rfl (HLO.out _ HMv.out) (Rd.of_row (n := 1 * 32) HR7.out lR HR7.out.lt) (fun _ _ => rfl) rfl (TreeApp.zn6 m2 (v2.g (d + 1)) hh) ⟨by omega, by omega⟩ HMv.out.base_le ?_; intro A8 c8 w8 ho hg ha; have HG8 : Hid (w7.grownBy w8 ((v2.lA (d + 1)).map (·.block))) := Hd (by rw [HA22.out]; exact hg); have HO8 := Hd ho; have HA8 : Hid (∀ b, OnA A8 b → OnA (v2.lA (d + 1)) b ∨ w7.heap.size ≤ b) := Hd (by rw [HA22.out]; exact zgp ha); clear ho hg ha; refine hK _ _ ?_; clear hK; simp only [pcX]; (try (refine zas (i := 17) (.pointer (some ⟨v2.lb, d + 1, none⟩)) rfl (by kernel_rfl) (by kernel_rfl) (by decide +kernel) rfl (fun _ _ _ h => h) (zbb rfl rfl rfl (fun w => ixL w _ _ _ (d + 1) (by omega))) ?_; simp only [pcX])); (first | refine zah (i := 18) rfl (by decide +kernel) rfl (fun K h18 => ?_) | refine zah (i := 3) rfl (by decide +kernel) rfl (fun K h3 => ?_)))
             | (revert h18; intro hK; obtain ⟨F, hF, _⟩ := HMv.out.lrow; have hrow := hF.of_block ((HMv.out.other2 (r0 := d + 1 + 3) (A := v2.lA (d + 1)) (fun b hb => ⟨by show d + 1 ≤ v2.D; have := HDv.out; omega, hb⟩) HG8.out).1 1 v2.lb rfl (by omega)); have hcap := HMv.out.lcap; have hDvv := HDv.out; refine zmg 32 (.tmp 144) (.tmp 143) rfl hrow (d + 1) (show d + 1 < v2.lc by simp only at hcap; omega) (.slice A8 (m2 + 1) c8) (StCopy.stSlR _ _ _) rfl rfl ?_; have HM9 := Hd (HMv.out.setL (k := d + 1) (by show d + 1 ≤ v2.D; omega) HG8.out HO8.out HA8.out); have HS9 := Hd ((TStep.refl (T := T) (v := { v2 with H := H2 + 1 }) (HBv.out.trans (HB7.out.mono HBv.out.size))).trans (TStep.ofL (T := T) (v := { v2 with H := H2 + 1 }) (k := d + 1) (by show d + 1 ≤ v2.D; omega) (n' := m2 + 1) (c' := c8) (g' := appN (v2.g (d + 1)) m2 hh) HG8.out HA8.out)); clear hrow hF HMv HG8 HO8 HA8 HB7; refine hK _ _ ?_; clear hK; simp only [Act.put]; (refine wpAny_done (by kernel_rfl) ?_ _; go_wp2_with fail; go_meet; case rel => exact HFinA.out hkm _ A8 c8 HM9.out HS9.out)))
     case rest =>
      obtain ⟨U', cU', v3, rfl, h1, h2, h3, h4, h5, h6, h7, h8⟩ := hcut
      have HE1' := Hd h1
      have HE2' := Hd h2
      have HE3' := Hd h3
      have HE4' := Hd h4
      have HE5' := Hd h5
      have HE6' := Hd h6
      have HE7' := Hd h7
      have HE8' := Hd h8
      clear h1 h2 h3 h4 h5 h6 h7 h8
      go_wp2_with fail
      go_roundw
      case rel => exact ⟨q + 1, U', cU', v3, rfl, by go_num, by omega, HE1'.out, HE2'.out, HE3'.out, HE4'.out, HE5'.out, HE6'.out, HE7'.out, HE8'.out⟩
      case measure => simp [intOf]; omega
    ·obtain rfl : q = len := by omega
     have hat : hfN (atN n (dirB v.dn v.dw) d) q = atL n (dirB v.dn v.dw) (d + 1) := by
      rw [← HLen.out]; rfl
     rw [← HLen.out] at his
     have HRSn := Hd (IS.done HRS.out his)
     rw [hat] at hoU
     rw [hat]
     have HU := Hd hoU
     have HUn := Hd hun
     clear his hoC hoU hun huc hcn hat hA hK
     go_wp2_with fail
     go_roundw
     case rel => exact ⟨d + 1, U, cU, v2, rfl, by go_num, by omega, HU.out.mono hz23, HRSn.out, HUn.out⟩
     case measure => simp [intOf]; omega
  ·obtain rfl : d = D := by omega
   have HRSD : Hid (RS w3 wo base T v v1 n x v.D) := Hd (by rw [HD.out]; exact HRS.out)
   have hcD : 0 < v1.lm d := by
    have h1 := (HRS.out.lo d lR).1
    have h2 := zf2 d n
    rcases Nat.eq_zero_or_pos (cnt d n) with h3 | h3
    ·rw [h3] at h2; omega
    ·omega
   obtain ⟨bD, hbD⟩ := zdv (HRS.out.tm.lv d (by rw [HD1.out]; exact Nat.le_refl _)) hcD
   have HBD := Hd hbD
   have hb2n : ¬ v.own T b2 := fun ho => by have := H0.out.lt ho; omega
   have HRw := Hd (HRS.out.st.chg.row HR3.out hb2n)
   have HR := Hd (HRSD.out.root HT0.out hn)
   clear hbD
   go_wp2_with (first
    | (refine zab rfl 151 rfl (.slice v1.dA v1.dn v1.dc) ?_ ?_; (· exact zan rfl rfl Ty37 HRS.out.tm.c3 rfl))
    | (refine zmi rfl (.tmp 151) 37 rfl HRS.out.tm.dr Ty37 (z0 := .int .u64 0) (k := 1) (b := 8) (by kernel_rfl) rfl rfl rfl ?_; intro w8 ho hg; have HM8 := Hd (HRS.out.tm.setW (dw' := fun _ => 0) hg ho); have HS8 := Hd (HRS.out.st.trans (TStep.ofW (T := T) (v := v1) (dw' := fun _ => 0) hg)); have HR8 := Hd (HS8.out.chg.row HR3.out hb2n); have HN8 := Hd ((HS.nil w8).take HR8.out (by simp)); clear ho hg)
    | (refine zab rfl 155 rfl (.slice (some ⟨v1.lb, 0, none⟩) (d + 1) v1.lc) ?_ ?_; (· exact zan rfl rfl Ty134 HM8.out.c2 (by show _ = Value.slice (some ⟨v1.lb, 0, none⟩) (d + 1) v1.lc; rw [← HD1.out])))
    | (refine zab rfl 157 rfl (.pointer (some ⟨v1.lb, d, none⟩)) ?_ ?_; (· exact zbb rfl rfl rfl (fun w => ixL w _ _ _ d (by omega)) _))
    | (refine zab rfl 158 rfl (.slice (some ⟨bD, 0, none⟩) (v1.lm d) (v1.lk d)) ?_ ?_; (· exact zan rfl rfl Ty32 (HM8.out.level (k := d) (by show d ≤ v1.D; rw [HD1.out]; exact Nat.le_refl _)) (by rw [← HBD.out])))
    | (refine zab rfl 159 rfl (.pointer (some ⟨bD, 0 * 32, none⟩)) ?_ ?_; (· exact zbb rfl rfl rfl (fun w => idxR w bD _ _ 0 hcD) _))
    | (refine zae rfl 24 (.tmp 159) rfl 32 _ Ty24 rfl s24 ⟨bD, 0 * 32, none⟩ rfl (u8v (treeN v.D n x)) (fun q hq => by
     have h1 : OwnZ w8 base 24 32 (v1.lA d) (v1.lm d) (v1.lk d) (u8v (v1.g d)) := HM8.out.lv d (by show d ≤ v1.D; rw [HD1.out]; exact Nat.le_refl _)
     have h2 := h1.rd
     rw [HBD.out] at h2
     have h3 := h2.cells (i := q) (by omega)
     rw [zai] at h3
     rw [zg6, Nat.zero_mul, Nat.zero_add, h3]
     simp only [u8v]
     rw [← HR.out q hq, HD.out]) ?_)
    | (refine zaf rfl 24 (.tmp 2) (.tmp 160) rfl HN8.out 0 rfl (u8v (treeN v.D n x)) rfl rfl (by kernel_rfl) (fun _ _ => rfl) ?_; intro w9 hs; have HN9 := Hd hs; clear hs))
   have hT2 : TStep w w8 T v { v1 with dw := fun _ => 0 } := (TStep.refl (HB2.out.trans (HB3.out.mono HB2.out.size))).trans HS8.out
   have hnb2 : ∀ b, TV.own { v1 with dw := fun _ => 0 } T b ∨ OnA v1.zA b → b ≠ b2 := fun b hb e => by
    subst e
    rcases hb with hb | hb
    ·rcases HS8.out.new _ hb with h1 | h1
     ·exact hb2n h1
     ·omega
    ·rw [HRS.out.st.zA] at hb
     have := H0.out.zlt hb
     omega
   have hb9 : ∀ b, b < w8.heap.size → b ≠ b2 → w9.heap[b]? = w8.heap[b]? := fun b hb hne => HN9.out.block b hb (fun r hr e => by
    rcases List.mem_cons.1 hr with rfl | hr
    ·exact hne e.symm
    ·cases hr)
   have hM9 : TM w9 base T { v1 with dw := fun _ => 0 } := HM8.out.keep HN9.out.size (fun b hb => hb9 b (by
    rcases hb with h1 | h1
    ·exact HM8.out.lt h1
    ·exact HM8.out.zlt h1) (hnb2 b hb))
   have hc9 : Chg (fun b => b = b2) w8 w9 := ⟨HN9.out.os, HN9.out.tape, HN9.out.output, HN9.out.size, fun b hb hne => hb9 b hb hne⟩
   have hT9 : TStep w w9 T v { v1 with dw := fun _ => 0 } := ⟨hT2.chg.trans hc9 (fun b e => .inr (by rw [e]; exact hb2)), hT2.new, hT2.zA, hT2.D, hT2.lim⟩
   exact za5 rfl (HN9.out.row 0 rfl) _ rfl Ty24 rfl s24 rfl ⟨_, rfl, hM9, hT9, TSt.rooted HRSD.out HT0.out rfl rfl rfl rfl rfl (fun _ => rfl), fun a => by simp [dirB], HRSD.out.H⟩
end Go.Proofs.YtomilckcgmhfcaaDoor
