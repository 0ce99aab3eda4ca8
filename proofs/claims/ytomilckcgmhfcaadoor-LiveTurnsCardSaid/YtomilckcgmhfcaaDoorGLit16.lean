/- Lemmas that the proof stands on. -/
import Derived.Test.YtomilckcgmhfcaaDoorGLit12
import Derived.Test.YtomilckcgmhfcaaDoorGLit15
namespace Go.Proofs.YtomilckcgmhfcaaDoor
set_option maxRecDepth 40000
set_option maxHeartbeats 64000000
open Go.RowKit
structure SameS (s t : StV) : Prop where
 nV : t.nV = s.nV
 nB : t.nB = s.nB
 nP : t.nP = s.nP
 nC : t.nC = s.nC
 nS : t.nS = s.nS
 nH : t.nH = s.nH
 nE : t.nE = s.nE
 V : t.V = s.V
 Bal : t.Bal = s.Bal
 Prv : t.Prv = s.Prv
 Cur : t.Cur = s.Cur
 Sco : t.Sco = s.Sco
 His : t.His = s.His
 Vot : t.Vot = s.Vot
 F : ∀ i, i ≠ 653 → i ≠ 719 → i ≠ 721 → i ≠ 722 → i ≠ 987 → i ≠ 988 → i ≠ 1092 → t.F i = s.F i
structure StAp (s : StV) : Prop where
 bs : ∀ b, OnA s.aB b → ¬ OnA s.aS b
 pc : ∀ b, OnA s.aP b → ¬ OnA s.aC b
structure OSp where
 e : TypeId
 z : Nat
 A : Option Addr
 n : Nat
 c : Nat
 f : Nat → Value
structure CS (w0 w : World) (m : Nat) (rows : List RowSpec) (os : List OSp) : Prop where
 hs : HS w0 w rows
 bel : Below w0.heap.size w0 w
 sz : m ≤ w.heap.size
 own : ∀ o ∈ os, OwnZ w m o.e o.z o.A o.n o.c o.f
 ap : os.Pairwise fun a b => ∀ k, OnA a.A k → ¬ OnA b.A k
section
variable {w0 w w' : World} {m : Nat} {rows rows' : List RowSpec} {os : List OSp}
theorem CS.call (h : CS w0 w m rows os) {e : TypeId} {z n c : Nat} {A : Option Addr} {f : Nat → Value} (hb : Below w.heap.size w w') (ho : OwnZ w' w.heap.size e z A n c f) : CS w0 w' m rows (⟨e, z, A, n, c, f⟩ :: os) where
 hs := h.hs.below hb
 bel := h.bel.trans (hb.mono h.hs.size)
 sz := lT h.sz hb.size
 own := fun o hm => by
  rcases List.mem_cons.1 hm with rfl | hm
  ·exact ho.mono h.sz
  ·exact (h.own o hm).all hb
 ap := List.Pairwise.cons (fun o hm k h1 h2 => by have := (ho.on h1).1; have := ((h.own o hm).on h2).2; omega) h.ap
theorem CS.sto (h : CS w0 w m rows os) {b : Nat} (hs : HS w0 w' rows') (hg : w.grownBy w' (some b)) (hb : b < m) (h0 : w0.heap.size ≤ b) : CS w0 w' m rows' os where
 hs := hs
 bel := h.bel.trans ⟨hg.os, hg.tape, hg.output, hg.size, fun k hk => hg.block k (Nat.lt_of_lt_of_le hk h.hs.size) (fun e => by injection e; omega)⟩
 sz := lT h.sz hg.size
 own := fun o hm => (h.own o hm).kept hg (fun ad e => by have := ((h.own o hm).base_le ad e).1; intro e2; injection e2 with e2; omega)
 ap := h.ap
theorem CS.drew (h : CS w0 w m rows os) : CS w0 w.drew m rows os := ⟨h.hs.drew, ⟨h.bel.os, h.bel.tape, h.bel.output, h.bel.size, h.bel.block⟩, h.sz, h.own, h.ap⟩
theorem zej {P : Program} {o : Oper} {a : Act} {K : Act → World → Prop} {Q : Exit → Act → World → Prop} {f : FuncId} (hent : ∀ vs w, (callFunc f vs).run P w = .ok (.enter f vs) w) {x : Operand} {v : Value} {ts : Array TypeId} (hop : o.op = .call { callee := .value (.func f), args := #[x], argTypes := ts }) (hx : a.eval x = v) (h : CS w0 w m rows os) {e : TypeId} {z n : Nat} {g : Nat → Value}
    (hc : ∀ w, Below w0.heap.size w0 w → Calls P f #[v] w fun r w' => ∃ A' c', r = .returned (.slice A' n c') ∧ OwnZ w' w.heap.size e z A' n c' g ∧ Below w.heap.size w w') (hK : ∀ A' c' w', CS w0 w' m rows (⟨e, z, A', n, c', g⟩ :: os) → K (a.put o.dst (.slice A' n c')) w') : o.wp P a w K Q :=
 zdm hent #[v] hop (by simp [hx]) ((hc w h.bel).mono fun r w' ⟨A', c', e1, ho, hb⟩ => ⟨_, e1, hK A' c' w' (h.call hb ho)⟩)
theorem ze3 {P : Program} {o : Oper} {a : Act} {K : Act → World → Prop} {Q : Exit → Act → World → Prop} {ty : TypeId} {x y : Operand} (ho : o.op = .store ty x y) (h : CS w0 w m rows os) (k : Nat) {b : Nat} {t : TypeId} {n : Nat} {f : Nat → Value} (hk : rows[k]? = some ⟨b, t, n, f⟩) {off : Nat} {v : Value}
    (hst : ∀ (w : World) (ad : Addr) (u : Value), w.cell? ad = some u → w.frozen? ad = false → (Instr.storeAt ty (.pointer (some ad)) v).run P w = .ok () (w.setCell ad v)) (hx : a.eval x = .pointer (some ⟨b, off, none⟩)) (hy : a.eval y = v) (hfit : off < n) (hb : b < m) (h0 : w0.heap.size ≤ b)
    (hK : ∀ w', CS w0 w' m (rows.set k ⟨b, t, n, fun j => if j = off then v else f j⟩) os → K (a.put o.dst undef) w') : o.wp P a w K Q :=
 TreeNew.zkk ty x y ho h.hs k hk off v hst hx hy hfit _ (fun _ _ => rfl) fun w' hs hg => hK w' (h.sto hs hg hb h0)
end
open StCopy TreeNew in
theorem zjy (s : StV) (w : World) (hS : StOk w w.heap.size s) (hnV : s.nV ≤ 65536) (hnB : s.nB ≤ 65536) (hnP : s.nP ≤ 65536) (hnC : s.nC ≤ 65536) (hnS : s.nS ≤ 65536) (hnH : s.nH ≤ 65536) (hnE : s.nE ≤ 65536) :
 Calls Tryd.prog 17 #[.agg (arr 1957 s.F)] w fun r w' => ∃ t : StV, r = .returned (.agg (arr 1957 t.F)) ∧ StOk w' w'.heap.size t ∧ StOwn w' w.heap.size t ∧ StAp t ∧ SameS s t ∧ Below w.heap.size w w' := by
 have HRd := Hd hS
 have HFH := Hd hS.f7
 have HFE := Hd hS.f9
 have HFV0 := Hd hS.f11
 have HFB0 := Hd hS.f12
 have HFP0 := Hd hS.f15
 have HFC0 := Hd hS.f16
 have HFS0 := Hd hS.f21
 have HS0 := Hd (HS.nil w)
 obtain ⟨Z, hZ⟩ : ∃ Z : Nat → Value, Z = fun i => z49.getD i undef := ⟨_, rfl⟩
 have HZ := Hd (show ∀ i, i < 1957 → z49[i]? = some (Z i) from fun i hi => by rw [hZ]; exact zgx i (by rw [zc8]; exact hi))
 clear hZ
 have H1F := Hd (zl8 hS)
 have H1H := Hd (zei hS.scH (by kernel_rfl))
 have H1E := Hd (zei hS.scE (by kernel_rfl))
 have H1V := Hd (zei hS.scV (by kernel_rfl))
 have H1B := Hd (show ∀ i, i < s.nB * 1 → (s.Bal i).oneCell' = true from fun i hi => by rw [(hS.scB i (by omega)).1]; rfl)
 have H1P := Hd (show ∀ i, i < s.nP * 1 → (s.Prv i).oneCell' = true from fun i hi => by rw [(hS.scP i (by omega)).1]; rfl)
 have H1C := Hd (show ∀ i, i < s.nC * 1 → (s.Cur i).oneCell' = true from fun i hi => by rw [(hS.scC i (by omega)).1]; rfl)
 have H1S := Hd (show ∀ i, i < s.nS * 1 → (s.Sco i).oneCell' = true from fun i hi => by rw [(hS.scS i (by omega)).1]; rfl)
 clear hS
 go_enter Tryd.func17, Tryd.ntmps17
 go_upto_region 1 with (first
  | ((with_reducible refine at_l ?_); first
   | (refine zaz rfl 49 _ 1 rfl rfl HS0.out 1957 s.F rfl ?_; intro b1 w1 hb1 hc1 hs; have HSa := Hd hs; clear hs)
   | (refine zac rfl 49 2 rfl rfl HSa.out z49 zi6 1957 Z zc8 HZ.out ?_; intro b2 w2 hb2 hc2 hs; have HSq1 := Hd hs; have hl1 : b1 < w2.heap.size := hs.lt 1 rfl; have hl2 : b2 < w2.heap.size := hs.lt 0 rfl; clear hs)))
 have hC := (CS.mk (m := w2.heap.size) (os := []) HSq1.out (HSq1.out.out (by simp; omega)) lR (fun _ h => by cases h) List.Pairwise.nil)
 have HC1 := Hd hC
 clear hC HSq1
 have HKH := Hd (fun wz (hz : Below w.heap.size w wz) => zue s.nH s.cH s.aH s.His wz ((HRd.out.rH.below hz).more hz.size) H1H.out hnH)
 have HKE := Hd (fun wz (hz : Below w.heap.size w wz) => zug s.nE s.cE s.aE s.Vot wz ((HRd.out.rE.below hz).more hz.size) H1E.out hnE)
 have HKV := Hd (fun wz (hz : Below w.heap.size w wz) => zui s.nV s.cV s.aV s.V wz ((HRd.out.rV.below hz).more hz.size) H1V.out hnV)
 have HKB := Hd (fun wz (hz : Below w.heap.size w wz) => zmb s.nB s.cB s.aB s.Bal wz (by rw [Nat.mul_one]; exact (HRd.out.rB.below hz).more hz.size) H1B.out hnB)
 have HKS := Hd (fun wz (hz : Below w.heap.size w wz) => zmb s.nS s.cS s.aS s.Sco wz (by rw [Nat.mul_one]; exact (HRd.out.rS.below hz).more hz.size) H1S.out hnS)
 have HKP := Hd (fun wz (hz : Below w.heap.size w wz) => zn5 s.nP s.cP s.aP s.Prv wz (by rw [Nat.mul_one]; exact (HRd.out.rP.below hz).more hz.size) H1P.out hnP)
 have HKC := Hd (fun wz (hz : Below w.heap.size w wz) => zn5 s.nC s.cC s.aC s.Cur wz (by rw [Nat.mul_one]; exact (HRd.out.rC.below hz).more hz.size) H1C.out hnC)
 go_upto_region 1 with fail
 simp only [pcX]
 go_cut [] from 3 to 10 (fun wx => ∃ (AH : Option Addr) (AE : Option Addr) (cH : Nat) (cE : Nat), CS w wx w2.heap.size [⟨b2, 49, 1957, Z⟩, ⟨b1, 49, 1957, fun j => if j = 719 then .slice AE s.nE cE else if j = 653 then .slice AH s.nH cH else s.F j⟩] [⟨34, 65, AE, s.nE, cE, s.Vot⟩, ⟨24, 32, AH, s.nH, cH, s.His⟩])
 case first =>
  refine zcu (n := 10) (by kernel_rfl) (by kernel_rfl) ?_
  have hC := HC1.out.drew
  clear HC1
  refine zas (i := 0) (.pointer (some ⟨b1, 653, none⟩)) rfl (by kernel_rfl) (by kernel_rfl) (by decide +kernel) rfl (fun _ _ _ h => h) (zbh rfl rfl (fun w => by simp [go_sem])) ?_
  simp only [pcX]
  refine zas (i := 3) (.pointer (some ⟨b1, 719, none⟩)) rfl (by kernel_rfl) (by kernel_rfl) (by decide +kernel) rfl (fun _ _ _ h => h) (zbh rfl rfl (fun w => by simp [go_sem])) ?_
  simp only [pcX]
  refine zay (i := 1) (j := 4) rfl rfl (by decide +kernel) rfl rfl (fun K h1 => ?_) (fun K h4 => ?_)
  repeat' (first
   | (revert h1; intro hK; refine zdd (.slice s.aH s.nH s.cH) (zan rfl rfl Ty32 (hC.hs.cell 1 653 rfl (show 653 < 1957 by omega)) HFH.out) ?_; refine hK _ _ ?_; clear hK; simp only [pcX]; (first | refine zah (i := 2) rfl (by decide +kernel) rfl (fun K h2 => ?_) | refine zay (i := 2) (j := 4) rfl rfl (by decide +kernel) rfl rfl (fun K h2 => ?_) (fun K h4 => ?_)))
   | (revert h2; intro hK; refine zej zud rfl rfl hC HKH.out (fun AH cH wv hC => ?_); refine hK _ _ ?_; clear hK; simp only [pcX]; (try (refine zas (i := 6) (.pointer (some ⟨b1, 653, none⟩)) rfl (by kernel_rfl) (by kernel_rfl) (by decide +kernel) rfl (fun _ _ _ h => h) (zbh rfl rfl (fun w => by simp [go_sem])) ?_; simp only [pcX])); (first | refine zah (i := 4) rfl (by decide +kernel) rfl (fun K h4 => ?_) | refine zah (i := 5) rfl (by decide +kernel) rfl (fun K h5 => ?_)))
   | (revert h4; intro hK; refine zdd (.slice s.aE s.nE s.cE) (zan rfl rfl Ty35 (hC.hs.cell 1 719 rfl (show 719 < 1957 by omega)) HFE.out) ?_; refine hK _ _ ?_; clear hK; simp only [pcX]; (try (refine zas (i := 6) (.pointer (some ⟨b1, 653, none⟩)) rfl (by kernel_rfl) (by kernel_rfl) (by decide +kernel) rfl (fun _ _ _ h => h) (zbh rfl rfl (fun w => by simp [go_sem])) ?_; simp only [pcX])); (first | refine zah (i := 5) rfl (by decide +kernel) rfl (fun K h5 => ?_) | refine zah (i := 2) rfl (by decide +kernel) rfl (fun K h2 => ?_) | refine zah (i := 1) rfl (by decide +kernel) rfl (fun K h1 => ?_)))
   | (revert h5; intro hK; refine zej zuf rfl rfl hC HKE.out (fun AE cE wv hC => ?_); refine hK _ _ ?_; clear hK; simp only [pcX]; refine zah (i := 7) rfl (by decide +kernel) rfl (fun K h7 => ?_))
   | (revert h7; intro hK; refine ze3 rfl hC 1 rfl (stSlR _ _ _) rfl rfl (by omega) hl1 hb1 (fun wv hC => ?_); refine hK _ _ ?_; clear hK; simp only [Act.put]; refine zas (i := 8) (.pointer (some ⟨b1, 719, none⟩)) rfl (by kernel_rfl) (by kernel_rfl) (by decide +kernel) rfl (fun _ _ _ h => h) (zbh rfl rfl (fun w => by simp [go_sem])) ?_; simp only [pcX]; refine zah (i := 9) rfl (by decide +kernel) rfl (fun K h9 => ?_))
   | (revert h9; intro hK; refine ze3 rfl hC 1 rfl (stSlE _ _ _) rfl rfl (by omega) hl1 hb1 (fun wv hC => ?_); refine hK _ _ ?_; clear hK; simp only [Act.put]; (refine wpAny_done (by kernel_rfl) ?_ _; go_wp2_with fail; go_meet; case rel => exact ⟨AH, AE, cH, cE, hC⟩)))
 case rest =>
  obtain ⟨AH, AE, cH, cE, hC⟩ := hcut
  obtain ⟨G1, hG1⟩ : ∃ G : Nat → Value, G = fun j => if j = 719 then .slice AE s.nE cE else if j = 653 then .slice AH s.nH cH else s.F j := ⟨_, rfl⟩
  rw [← hG1] at hC
  have HC2 := Hd hC
  clear hC
  have HFV := Hd (show G1 721 = .slice s.aV s.nV s.cV by rw [hG1]; exact HFV0.out)
  have HFB := Hd (show G1 722 = .slice s.aB s.nB s.cB by rw [hG1]; exact HFB0.out)
  have HFS := Hd (show G1 1092 = .slice s.aS s.nS s.cS by rw [hG1]; exact HFS0.out)
  have HFP1 := Hd (show G1 987 = .slice s.aP s.nP s.cP by rw [hG1]; exact HFP0.out)
  have HFC1 := Hd (show G1 988 = .slice s.aC s.nC s.cC by rw [hG1]; exact HFC0.out)
  have HG1 := Hd hG1
  clear hG1
  go_upto_region 2 with fail
  go_cut [] from 11 to 22 (fun wx => ∃ (AV : Option Addr) (AB : Option Addr) (AS : Option Addr) (cV : Nat) (cB : Nat) (cS : Nat), CS w wx w2.heap.size [⟨b2, 49, 1957, Z⟩, ⟨b1, 49, 1957, fun j => if j = 1092 then .slice AS s.nS cS else if j = 722 then .slice AB s.nB cB else if j = 721 then .slice AV s.nV cV else G1 j⟩] [⟨22, 1, AS, s.nS, cS, s.Sco⟩, ⟨22, 1, AB, s.nB, cB, s.Bal⟩, ⟨66, 86, AV, s.nV, cV, s.V⟩, ⟨34, 65, AE, s.nE, cE, s.Vot⟩, ⟨24, 32, AH, s.nH, cH, s.His⟩])
  case first =>
   refine zcu (n := 15) (by kernel_rfl) (by kernel_rfl) ?_
   have hC := HC2.out.drew
   clear HC2
   refine zas (i := 0) (.pointer (some ⟨b1, 721, none⟩)) rfl (by kernel_rfl) (by kernel_rfl) (by decide +kernel) rfl (fun _ _ _ h => h) (zbh rfl rfl (fun w => by simp [go_sem])) ?_
   simp only [pcX]
   refine zas (i := 3) (.pointer (some ⟨b1, 722, none⟩)) rfl (by kernel_rfl) (by kernel_rfl) (by decide +kernel) rfl (fun _ _ _ h => h) (zbh rfl rfl (fun w => by simp [go_sem])) ?_
   simp only [pcX]
   refine zas (i := 6) (.pointer (some ⟨b1, 1092, none⟩)) rfl (by kernel_rfl) (by kernel_rfl) (by decide +kernel) rfl (fun _ _ _ h => h) (zbh rfl rfl (fun w => by simp [go_sem])) ?_
   simp only [pcX]
   refine zcq (i := 1) (j := 4) (k := 7) rfl rfl rfl (by decide +kernel) rfl rfl rfl (fun K h1 => ?_) (fun K h4 => ?_) (fun K h7 => ?_)
   repeat' (first
    | (revert h1; intro hK; refine zdd (.slice s.aV s.nV s.cV) (zan rfl rfl Ty36 (hC.hs.cell 1 721 rfl (show 721 < 1957 by omega)) HFV.out) ?_; refine hK _ _ ?_; clear hK; simp only [pcX]; (first | refine zah (i := 2) rfl (by decide +kernel) rfl (fun K h2 => ?_) | refine zay (i := 2) (j := 7) rfl rfl (by decide +kernel) rfl rfl (fun K h2 => ?_) (fun K h7 => ?_) | refine zay (i := 2) (j := 4) rfl rfl (by decide +kernel) rfl rfl (fun K h2 => ?_) (fun K h4 => ?_) | refine zcq (i := 2) (j := 4) (k := 7) rfl rfl rfl (by decide +kernel) rfl rfl rfl (fun K h2 => ?_) (fun K h4 => ?_) (fun K h7 => ?_)))
    | (revert h2; intro hK; refine zej zuh rfl rfl hC HKV.out (fun AV cV wv hC => ?_); refine hK _ _ ?_; clear hK; simp only [pcX]; (try (refine zas (i := 9) (.pointer (some ⟨b1, 721, none⟩)) rfl (by kernel_rfl) (by kernel_rfl) (by decide +kernel) rfl (fun _ _ _ h => h) (zbh rfl rfl (fun w => by simp [go_sem])) ?_; simp only [pcX])); (first | refine zah (i := 5) rfl (by decide +kernel) rfl (fun K h5 => ?_) | refine zah (i := 4) rfl (by decide +kernel) rfl (fun K h4 => ?_) | refine zay (i := 4) (j := 7) rfl rfl (by decide +kernel) rfl rfl (fun K h4 => ?_) (fun K h7 => ?_) | refine zay (i := 5) (j := 7) rfl rfl (by decide +kernel) rfl rfl (fun K h5 => ?_) (fun K h7 => ?_)))
    | (revert h4; intro hK; refine zdd (.slice s.aB s.nB s.cB) (zan rfl rfl Ty37 (hC.hs.cell 1 722 rfl (show 722 < 1957 by omega)) HFB.out) ?_; refine hK _ _ ?_; clear hK; simp only [pcX]; (try (refine zas (i := 9) (.pointer (some ⟨b1, 721, none⟩)) rfl (by kernel_rfl) (by kernel_rfl) (by decide +kernel) rfl (fun _ _ _ h => h) (zbh rfl rfl (fun w => by simp [go_sem])) ?_; simp only [pcX])); (first | refine zah (i := 5) rfl (by decide +kernel) rfl (fun K h5 => ?_) | refine zah (i := 2) rfl (by decide +kernel) rfl (fun K h2 => ?_) | refine zah (i := 1) rfl (by decide +kernel) rfl (fun K h1 => ?_) | refine zay (i := 5) (j := 7) rfl rfl (by decide +kernel) rfl rfl (fun K h5 => ?_) (fun K h7 => ?_) | refine zay (i := 2) (j := 7) rfl rfl (by decide +kernel) rfl rfl (fun K h2 => ?_) (fun K h7 => ?_) | refine zay (i := 1) (j := 7) rfl rfl (by decide +kernel) rfl rfl (fun K h1 => ?_) (fun K h7 => ?_)))
    | (revert h5; intro hK; refine zej zma rfl rfl hC HKB.out (fun AB cB wv hC => ?_); refine hK _ _ ?_; clear hK; simp only [pcX]; (first | refine zah (i := 7) rfl (by decide +kernel) rfl (fun K h7 => ?_) | refine zah (i := 8) rfl (by decide +kernel) rfl (fun K h8 => ?_)))
    | (revert h7; intro hK; refine zdd (.slice s.aS s.nS s.cS) (zan rfl rfl Ty37 (hC.hs.cell 1 1092 rfl (show 1092 < 1957 by omega)) HFS.out) ?_; refine hK _ _ ?_; clear hK; simp only [pcX]; (try (refine zas (i := 9) (.pointer (some ⟨b1, 721, none⟩)) rfl (by kernel_rfl) (by kernel_rfl) (by decide +kernel) rfl (fun _ _ _ h => h) (zbh rfl rfl (fun w => by simp [go_sem])) ?_; simp only [pcX])); (first | refine zah (i := 8) rfl (by decide +kernel) rfl (fun K h8 => ?_) | refine zah (i := 5) rfl (by decide +kernel) rfl (fun K h5 => ?_) | refine zah (i := 4) rfl (by decide +kernel) rfl (fun K h4 => ?_) | refine zah (i := 2) rfl (by decide +kernel) rfl (fun K h2 => ?_) | refine zah (i := 1) rfl (by decide +kernel) rfl (fun K h1 => ?_) | refine zay (i := 2) (j := 4) rfl rfl (by decide +kernel) rfl rfl (fun K h2 => ?_) (fun K h4 => ?_) | refine zay (i := 1) (j := 4) rfl rfl (by decide +kernel) rfl rfl (fun K h1 => ?_) (fun K h4 => ?_)))
    | (revert h8; intro hK; refine zej zma rfl rfl hC HKS.out (fun AS cS wv hC => ?_); refine hK _ _ ?_; clear hK; simp only [pcX]; refine zah (i := 10) rfl (by decide +kernel) rfl (fun K h10 => ?_))
    | (revert h10; intro hK; refine ze3 rfl hC 1 rfl (stSlV _ _ _) rfl rfl (by omega) hl1 hb1 (fun wv hC => ?_); refine hK _ _ ?_; clear hK; simp only [Act.put]; refine zas (i := 11) (.pointer (some ⟨b1, 722, none⟩)) rfl (by kernel_rfl) (by kernel_rfl) (by decide +kernel) rfl (fun _ _ _ h => h) (zbh rfl rfl (fun w => by simp [go_sem])) ?_; simp only [pcX]; refine zah (i := 12) rfl (by decide +kernel) rfl (fun K h12 => ?_))
    | (revert h12; intro hK; refine ze3 rfl hC 1 rfl (stSl64 _ _ _) rfl rfl (by omega) hl1 hb1 (fun wv hC => ?_); refine hK _ _ ?_; clear hK; simp only [Act.put]; refine zas (i := 13) (.pointer (some ⟨b1, 1092, none⟩)) rfl (by kernel_rfl) (by kernel_rfl) (by decide +kernel) rfl (fun _ _ _ h => h) (zbh rfl rfl (fun w => by simp [go_sem])) ?_; simp only [pcX]; refine zah (i := 14) rfl (by decide +kernel) rfl (fun K h14 => ?_))
    | (revert h14; intro hK; refine ze3 rfl hC 1 rfl (stSl64 _ _ _) rfl rfl (by omega) hl1 hb1 (fun wv hC => ?_); refine hK _ _ ?_; clear hK; simp only [Act.put]; (refine wpAny_done (by kernel_rfl) ?_ _; go_wp2_with fail; go_meet; case rel => exact ⟨AV, AB, AS, cV, cB, cS, hC⟩)))
  case rest =>
   obtain ⟨AV, AB, AS, cV, cB, cS, hC⟩ := hcut
   obtain ⟨G2, hG2⟩ : ∃ G : Nat → Value, G = fun j => if j = 1092 then .slice AS s.nS cS else if j = 722 then .slice AB s.nB cB else if j = 721 then .slice AV s.nV cV else G1 j := ⟨_, rfl⟩
   rw [← hG2] at hC
   have HC3 := Hd hC
   clear hC
   have HFP := Hd (show G2 987 = .slice s.aP s.nP s.cP by rw [hG2]; exact HFP1.out)
   have HFC := Hd (show G2 988 = .slice s.aC s.nC s.cC by rw [hG2]; exact HFC1.out)
   have HG2 := Hd hG2
   clear hG2
   go_upto_region 3 with fail
   go_cut [] from 23 to 30 (fun wx => ∃ (AP : Option Addr) (AC : Option Addr) (cP : Nat) (cC : Nat), CS w wx w2.heap.size [⟨b2, 49, 1957, Z⟩, ⟨b1, 49, 1957, fun j => if j = 988 then .slice AC s.nC cC else if j = 987 then .slice AP s.nP cP else G2 j⟩] [⟨5, 1, AC, s.nC, cC, s.Cur⟩, ⟨5, 1, AP, s.nP, cP, s.Prv⟩, ⟨22, 1, AS, s.nS, cS, s.Sco⟩, ⟨22, 1, AB, s.nB, cB, s.Bal⟩, ⟨66, 86, AV, s.nV, cV, s.V⟩, ⟨34, 65, AE, s.nE, cE, s.Vot⟩, ⟨24, 32, AH, s.nH, cH, s.His⟩])
   case first =>
    refine zcu (n := 10) (by kernel_rfl) (by kernel_rfl) ?_
    have hC := HC3.out.drew
    clear HC3
    refine zas (i := 0) (.pointer (some ⟨b1, 987, none⟩)) rfl (by kernel_rfl) (by kernel_rfl) (by decide +kernel) rfl (fun _ _ _ h => h) (zbh rfl rfl (fun w => by simp [go_sem])) ?_
    simp only [pcX]
    refine zas (i := 3) (.pointer (some ⟨b1, 988, none⟩)) rfl (by kernel_rfl) (by kernel_rfl) (by decide +kernel) rfl (fun _ _ _ h => h) (zbh rfl rfl (fun w => by simp [go_sem])) ?_
    simp only [pcX]
    refine zay (i := 1) (j := 4) rfl rfl (by decide +kernel) rfl rfl (fun K h1 => ?_) (fun K h4 => ?_)
    repeat' (first
     | (revert h1; intro hK; refine zdd (.slice s.aP s.nP s.cP) (zan rfl rfl Ty39 (hC.hs.cell 1 987 rfl (show 987 < 1957 by omega)) HFP.out) ?_; refine hK _ _ ?_; clear hK; simp only [pcX]; (first | refine zah (i := 2) rfl (by decide +kernel) rfl (fun K h2 => ?_) | refine zay (i := 2) (j := 4) rfl rfl (by decide +kernel) rfl rfl (fun K h2 => ?_) (fun K h4 => ?_)))
     | (revert h2; intro hK; refine zej zn4 rfl rfl hC HKP.out (fun AP cP wv hC => ?_); refine hK _ _ ?_; clear hK; simp only [pcX]; (try (refine zas (i := 6) (.pointer (some ⟨b1, 987, none⟩)) rfl (by kernel_rfl) (by kernel_rfl) (by decide +kernel) rfl (fun _ _ _ h => h) (zbh rfl rfl (fun w => by simp [go_sem])) ?_; simp only [pcX])); (first | refine zah (i := 4) rfl (by decide +kernel) rfl (fun K h4 => ?_) | refine zah (i := 5) rfl (by decide +kernel) rfl (fun K h5 => ?_)))
     | (revert h4; intro hK; refine zdd (.slice s.aC s.nC s.cC) (zan rfl rfl Ty39 (hC.hs.cell 1 988 rfl (show 988 < 1957 by omega)) HFC.out) ?_; refine hK _ _ ?_; clear hK; simp only [pcX]; (try (refine zas (i := 6) (.pointer (some ⟨b1, 987, none⟩)) rfl (by kernel_rfl) (by kernel_rfl) (by decide +kernel) rfl (fun _ _ _ h => h) (zbh rfl rfl (fun w => by simp [go_sem])) ?_; simp only [pcX])); (first | refine zah (i := 5) rfl (by decide +kernel) rfl (fun K h5 => ?_) | refine zah (i := 2) rfl (by decide +kernel) rfl (fun K h2 => ?_) | refine zah (i := 1) rfl (by decide +kernel) rfl (fun K h1 => ?_)))
     | (revert h5; intro hK; refine zej zn4 rfl rfl hC HKC.out (fun AC cC wv hC => ?_); refine hK _ _ ?_; clear hK; simp only [pcX]; refine zah (i := 7) rfl (by decide +kernel) rfl (fun K h7 => ?_))
     | (revert h7; intro hK; refine ze3 rfl hC 1 rfl (stSl8 _ _ _) rfl rfl (by omega) hl1 hb1 (fun wv hC => ?_); refine hK _ _ ?_; clear hK; simp only [Act.put]; refine zas (i := 8) (.pointer (some ⟨b1, 988, none⟩)) rfl (by kernel_rfl) (by kernel_rfl) (by decide +kernel) rfl (fun _ _ _ h => h) (zbh rfl rfl (fun w => by simp [go_sem])) ?_; simp only [pcX]; refine zah (i := 9) rfl (by decide +kernel) rfl (fun K h9 => ?_))
     | (revert h9; intro hK; refine ze3 rfl hC 1 rfl (stSl8 _ _ _) rfl rfl (by omega) hl1 hb1 (fun wv hC => ?_); refine hK _ _ ?_; clear hK; simp only [Act.put]; (refine wpAny_done (by kernel_rfl) ?_ _; go_wp2_with fail; go_meet; case rel => exact ⟨AP, AC, cP, cC, hC⟩)))
   case rest =>
    obtain ⟨AP, AC, cP, cC, hC⟩ := hcut
    obtain ⟨G3, hG3⟩ : ∃ G : Nat → Value, G = fun j => if j = 988 then .slice AC s.nC cC else if j = 987 then .slice AP s.nP cP else G2 j := ⟨_, rfl⟩
    rw [← hG3] at hC
    have HC4 := Hd hC
    clear hC
    have HG3 := Hd hG3
    clear hG3
    have HX1 : Hid (∀ i, i ≠ 653 → i ≠ 719 → i ≠ 721 → i ≠ 722 → i ≠ 987 → i ≠ 988 → i ≠ 1092 → G3 i = s.F i) := Hd (fun i h1 h2 h3 h4 h5 h6 h7 => by simp only [HG3.out, HG2.out, HG1.out, if_neg h1, if_neg h2, if_neg h3, if_neg h4, if_neg h5, if_neg h6, if_neg h7])
    have HE653 := Hd (show G3 653 = .slice AH s.nH cH by simp [HG3.out, HG2.out, HG1.out])
    have HE719 := Hd (show G3 719 = .slice AE s.nE cE by simp [HG3.out, HG2.out, HG1.out])
    have HE721 := Hd (show G3 721 = .slice AV s.nV cV by simp [HG3.out, HG2.out, HG1.out])
    have HE722 := Hd (show G3 722 = .slice AB s.nB cB by simp [HG3.out, HG2.out, HG1.out])
    have HE1092 := Hd (show G3 1092 = .slice AS s.nS cS by simp [HG3.out, HG2.out, HG1.out])
    have HE987 := Hd (show G3 987 = .slice AP s.nP cP by simp [HG3.out, HG2.out, HG1.out])
    have HE988 := Hd (show G3 988 = .slice AC s.nC cC by simp [HG3.out, HG2.out, HG1.out])
    have HSc7 : Hid (Sc G3 49) := Hd (by
     rw [HG3.out, HG2.out, HG1.out]
     exact ((((((HRd.out.sc.slice_cell 653 (t := 32) (by kernel_rfl) Ty32 (.slice AH s.nH cH)).slice_cell 719 (t := 35) (by kernel_rfl) Ty35 (.slice AE s.nE cE)).slice_cell 721 (t := 36) (by kernel_rfl) Ty36 (.slice AV s.nV cV)).slice_cell 722 (t := 37) (by kernel_rfl) Ty37 (.slice AB s.nB cB)).slice_cell 1092 (t := 37) (by kernel_rfl) Ty37 (.slice AS s.nS cS)).slice_cell 987 (t := 39) (by kernel_rfl) Ty39 (.slice AP s.nP cP)).slice_cell 988 (t := 39) (by kernel_rfl) Ty39 (.slice AC s.nC cC))
    have HOne : Hid (∀ i, i < 1957 → (G3 i).oneCell' = true) := Hd (fun i hi => by
     have h := H1F.out i hi
     simp only [HG3.out, HG2.out, HG1.out]
     repeat (split; · rfl)
     exact h)
    go_wp2_with (first
     | ((with_reducible refine at_l ?_); first
      | (refine zae rfl 49 _ rfl 1957 _ Ty49 rfl (by kernel_rfl) ⟨b1, 0, none⟩ rfl G3 (fun i hi => by rw [zai]; exact (HC4.out.hs.row 1 rfl).cell hi) ?_)
      | (refine PickDraw.zkj rfl 49 (.tmp 2) (.tmp 31) rfl HC4.out.hs 0 rfl G3 rfl rfl (by kernel_rfl) HOne.out ?_; intro w9 hs hg; have HS9 := Hd hs; have HG9 := Hd hg; clear hs hg)))
    have hC5 := HC4.out.sto (b := b2) HS9.out HG9.out hl2 hb2
    have KH : OwnZ w9 w2.heap.size 24 32 AH s.nH cH s.His := hC5.own _ (List.mem_of_getElem? (i := 6) rfl)
    have KE : OwnZ w9 w2.heap.size 34 65 AE s.nE cE s.Vot := hC5.own _ (List.mem_of_getElem? (i := 5) rfl)
    have KV : OwnZ w9 w2.heap.size 66 86 AV s.nV cV s.V := hC5.own _ (List.mem_of_getElem? (i := 4) rfl)
    have KB : OwnZ w9 w2.heap.size 22 1 AB s.nB cB s.Bal := hC5.own _ (List.mem_of_getElem? (i := 3) rfl)
    have KS : OwnZ w9 w2.heap.size 22 1 AS s.nS cS s.Sco := hC5.own _ (List.mem_of_getElem? (i := 2) rfl)
    have KP : OwnZ w9 w2.heap.size 5 1 AP s.nP cP s.Prv := hC5.own _ (List.mem_of_getElem? (i := 1) rfl)
    have KC : OwnZ w9 w2.heap.size 5 1 AC s.nC cC s.Cur := hC5.own _ (List.mem_of_getElem? (i := 0) rfl)
    have hap := hC5.ap
    have HD2 : ∀ b, OnA AB b → ¬ OnA AS b := fun b h1 h2 => by
     have h3 := (List.pairwise_iff_getElem.1 hap) 2 3 (by simp) (by simp) (by decide)
     exact h3 b h2 h1
    have HD3 : ∀ b, OnA AP b → ¬ OnA AC b := fun b h1 h2 => by
     have h3 := (List.pairwise_iff_getElem.1 hap) 0 1 (by simp) (by simp) (by decide)
     exact h3 b h2 h1
    have h02 : w.heap.size ≤ w2.heap.size := lT hb2 (Nat.le_of_lt hl2)
    have one : ∀ {A : Option Addr} {n : Nat} {f : Nat → Value}, Rd w9 w9.heap.size A (n * 1) f → Rd w9 w9.heap.size A n f := fun h => by rwa [Nat.mul_one] at h
    exact za5 rfl (HS9.out.row 0 rfl) _ rfl Ty49 rfl (by kernel_rfl) rfl ⟨⟨G3, AV, s.nV, cV, s.V, AB, s.nB, cB, s.Bal, AP, s.nP, cP, s.Prv, AC, s.nC, cC, s.Cur, AS, s.nS, cS, s.Sco, AH, s.nH, cH, s.His, AE, s.nE, cE, s.Vot⟩, rfl,
     ⟨HSc7.out, HE653.out, HE719.out, HE721.out, HE722.out, HE987.out, HE988.out, HE1092.out, ⟨KV.cap, KV.capM⟩, ⟨KB.cap, KB.capM⟩, ⟨KP.cap, KP.capM⟩, ⟨KC.cap, KC.capM⟩, ⟨KS.cap, KS.capM⟩, ⟨KH.cap, KH.capM⟩, ⟨KE.cap, KE.capM⟩,
      KV.rd, one KB.rd, one KP.rd, one KC.rd, one KS.rd, KH.rd, KE.rd, HRd.out.scV, HRd.out.scB, HRd.out.scP, HRd.out.scC, HRd.out.scS, HRd.out.scH, HRd.out.scE⟩,
     ⟨KH.mono h02, KE.mono h02, KV.mono h02, KB.mono h02, KP.mono h02, KC.mono h02, KS.mono h02⟩, ⟨HD2, HD3⟩, ⟨rfl, rfl, rfl, rfl, rfl, rfl, rfl, rfl, rfl, rfl, rfl, rfl, rfl, rfl, HX1.out⟩, HS9.out.out (by simp; omega)⟩
namespace MerkleMix
theorem lay8 (v : Nat) : ∀ j, j < 32 → (if 0 ≤ j ∧ j < 0 + 8 then u8v (leB v) (j - 0) else u8v (fun _ => 0) j) = u8v (padN 8 (leB v)) j := fun j _ => by
 unfold padN
 by_cases h : j < 8
 ·rw [if_pos (by omega)]; simp only [u8v]; rw [if_pos h]; rfl
 ·rw [if_neg (by omega)]; simp only [u8v]; rw [if_neg h]
theorem zuu (v : Nat) : ∀ j, j < 32 → u8v (fun i => if i < 8 then leB v i else 0) j = u8v (padN 8 (leB v)) j := fun _ _ => rfl
end MerkleMix
open MerkleMix in
theorem zdk (x : Nat → Nat) (hx : ∀ i, x i < 256) (v : Nat) (w : World) (hp : ShaPkg w) :
 Calls Tryd.prog 31 #[rootV x, .int .u64 (v : Int)] w fun e w' => e = .returned (rootV (shaB (catN 32 x (padN 8 (leB v))) 64)) ∧ Below w.heap.size w w' := by
 have HP := Hd hp
 have HXl := Hd hx
 have HS0 := Hd (HS.nil w)
 clear hp hx
 go_enter Tryd.func31, Tryd.ntmps31
 go_wp2_with (first
  | (refine zaz rfl 24 _ 2 rfl rfl HS0.out 32 (u8v x) rfl ?_; intro b2 w2 hb2 hc2 hs; have HS2 := Hd hs; clear hs)
  | (refine zac rfl 24 4 rfl rfl HS2.out _ z24 32 (u8v fun _ => 0) n24 f24 ?_; intro b4 w4 hb4 hc4 hs; have HS4 := Hd hs; clear hs)
  | (refine zac rfl 24 5 rfl rfl HS4.out _ z24 32 (u8v fun _ => 0) n24 f24 ?_; intro b5 w5 hb5 hc5 hs; have HS5 := Hd hs; clear hs)
  | (go_at_call 55; refine (zet v _).mono ?_; rintro e w5b ⟨rfl, hb⟩; have HS5b := Hd (HS5.out.below hb); clear hb)
  | (refine zac rfl 108 6 rfl rfl HS5b.out (Array.replicate 8 (.int .u8 0)) (by kernel_rfl) 8 (u8v fun _ => 0) (by rfl) (zbg 8 (.int .u8 0)) ?_; intro b6 w5c hb6 hc6 hs; have HS5c := Hd hs; clear hs)
  | (refine zaf rfl 108 (.tmp 6) (.tmp 8) rfl HS5c.out 0 rfl (u8v (leB v)) rfl rfl (by kernel_rfl) (fun _ _ => rfl) ?_; intro w6 hs; have HS6 := Hd hs; clear hs))
 refine zao (l := [_, _]) (tl := []) (B := w6.heap.size) (w0 := w6) [sI (.slice (some ⟨b5, 0, none⟩) (32) (32)), sI (.slice (some ⟨b6, 0, none⟩) (8) (8))] (by kernel_rfl) (by kernel_rfl) rfl lR (Below.refl _ _) ⟨?_, ?_, trivial⟩ ?_
 ·exact zbe rfl rfl (oT rfl) (OpKo.no) (OpKo.no) (fun w => zbp Ty24 1 (by kernel_rfl) none none (0) (32) (.inl ⟨rfl, rfl⟩) (.inl ⟨rfl, rfl⟩) (by omega) (by omega) (by omega) (by omega) (by omega) (by omega))
 ·exact zbe rfl rfl (oT rfl) (OpKo.no) (OpKo.no) (fun w => zbp Ty108 1 (by kernel_rfl) none none (0) (8) (.inl ⟨rfl, rfl⟩) (.inl ⟨rfl, rfl⟩) (by omega) (by omega) (by omega) (by omega) (by omega) (by omega))
 ·intro w' hb
  simp only [fin, sI, forall_eq]
  simp only [pcX]
  have hs := HS6.out.below hb
  refine ze2 rfl Ty39 (by kernel_rfl) hs 1 rfl 0 32 32 (Rd.of_row (hs.row 0 rfl) lR (hs.lt 0 rfl)) (fun _ _ => rfl) 8 rfl (by omega) rfl rfl _ (lay8 v) ?_
  clear hs hb
  intro wa hs
  have hA : HS w wa [⟨b6, 108, 8, u8v (leB v)⟩, ⟨b5, 24, 32, u8v (padN 8 (leB v))⟩, ⟨b4, 24, 32, u8v fun _ => 0⟩, ⟨b2, 24, 32, u8v x⟩] := hs
  have HA := Hd hA
  clear hs hA HS2 HS4 HS5 HS5b HS5c HS6
  simp only [seqWp]
  go_wp2_with (first
   | (refine zae rfl 24 _ rfl 32 _ Ty24 rfl s24 ⟨b2, 0, none⟩ rfl (u8v x) (fun i hi => by rw [zai]; exact HA.out.cell 3 i rfl hi) ?_)
   | (refine zae rfl 24 _ rfl 32 _ Ty24 rfl s24 ⟨b5, 0, none⟩ rfl (u8v (padN 8 (leB v))) (fun i hi => by rw [zai]; exact HA.out.cell 1 i rfl hi) ?_)
   | (go_at_call 33; refine (zem x (padN 8 (leB v)) HXl.out (za6 (zbq v)) _ (HP.out.below (HA.out.out (by simp; omega)))).mono ?_; rintro e w12 ⟨rfl, hb⟩; have HS12 := Hd (HA.out.below hb); clear hb)
   | (refine zaf rfl 24 (.tmp 4) (.tmp 14) rfl HS12.out 2 rfl (u8v (shaB (catN 32 x (padN 8 (leB v))) 64)) rfl rfl (by kernel_rfl) (fun _ _ => rfl) ?_; intro wy hs; have HY := Hd hs; clear hs))
  exact za5 rfl (HY.out.row 2 rfl) _ rfl Ty24 rfl s24 rfl ⟨rfl, HY.out.out (by simp; omega)⟩
open MerkleMix in
theorem ze4 (x : Nat → Nat) (hx : ∀ i, x i < 256) (v : Nat) (w : World) (hp : RefPkg w) :
 Calls Tryd.prog 71 #[rootV x, .int .u64 (v : Int)] w fun e w' => e = .returned (rootV (shaB (catN 32 x (padN 8 (leB v))) 64)) ∧ Below w.heap.size w w' := by
 have HP := Hd hp
 have HXl := Hd hx
 have HS0 := Hd (HS.nil w)
 clear hp hx
 go_enter Tryd.func71, Tryd.ntmps71
 go_wp2_with (first
  | (refine zaz rfl 24 _ 2 rfl rfl HS0.out 32 (u8v x) rfl ?_; intro b2 w2 hb2 hc2 hs; have HS2 := Hd hs; clear hs)
  | (refine zac rfl 24 4 rfl rfl HS2.out _ z24 32 (u8v fun _ => 0) n24 f24 ?_; intro b4 w4 hb4 hc4 hs; have HS4 := Hd hs; clear hs)
  | (refine zac rfl 24 5 rfl rfl HS4.out (Array.replicate 32 (.int .u8 0)) (by kernel_rfl) 32 (u8v fun i => if i < 0 then leB v i else 0) (by rfl) (zbg 32 (.int .u8 0)) ?_; intro b5 w5 hb5 hc5 hs; have HS5 := Hd hs; clear hs)
  | (go_at_call 87; refine (zhp v _).mono ?_; rintro e w5b ⟨rfl, hb⟩; have HS5b := Hd (HS5.out.below hb); clear hb)
  | (refine zac rfl 108 6 rfl rfl HS5b.out (Array.replicate 8 (.int .u8 0)) (by kernel_rfl) 8 (u8v fun _ => 0) (by rfl) (zbg 8 (.int .u8 0)) ?_; intro b6 w5c hb6 hc6 hs; have HS5c := Hd hs; clear hs)
  | (refine zaf rfl 108 (.tmp 6) (.tmp 9) rfl HS5c.out 0 rfl (u8v (leB v)) rfl rfl (by kernel_rfl) (fun _ _ => rfl) ?_; intro w6 hs; have HS6 := Hd hs; clear hs))
 go_loopw [7] (fun i wr => ∃ j : Nat, i = .int .i64 (j : Int) ∧ j ≤ 8 ∧ HS w wr [⟨b6, 108, 8, u8v (leB v)⟩, ⟨b5, 24, 32, u8v fun i => if i < j then leB v i else 0⟩, ⟨b4, 24, 32, u8v fun _ => 0⟩, ⟨b2, 24, 32, u8v x⟩]) (fun i _ => 8 - (intOf i).toNat)
 case atStart => exact ⟨0, rfl, by omega, HS6.out⟩
 case round =>
  clear HS2 HS4 HS5 HS5b HS5c HS6
  obtain ⟨j, rfl, hj, hs⟩ := hrel
  by_cases hj8 : j < 8
  ·have cl := hs.cell 0 j rfl hj8
   have co := hs.cell 1 j rfl (show j < 32 by omega)
   have fo := hs.frozen 1 j rfl
   have HSq := Hd hs
   clear hs
   go_wp2_with fail
   go_roundw
   case rel => exact ⟨j + 1, by go_num, by omega, (HSq.out.set 1 j rfl _).congr 1 rfl (fun i _ => zkg _ rfl)⟩
   case measure => simp [intOf]; omega
  ·obtain rfl : j = 8 := by omega
   have HA := Hd (hs.congr 1 rfl (zuu v))
   clear hs
   go_wp2_with (first
    | (refine zae rfl 24 _ rfl 32 _ Ty24 rfl s24 ⟨b2, 0, none⟩ rfl (u8v x) (fun i hi => by rw [zai]; exact HA.out.cell 3 i rfl hi) ?_)
    | (refine zae rfl 24 _ rfl 32 _ Ty24 rfl s24 ⟨b5, 0, none⟩ rfl (u8v (padN 8 (leB v))) (fun i hi => by rw [zai]; exact HA.out.cell 1 i rfl hi) ?_)
    | (go_at_call 91; refine (zfs x (padN 8 (leB v)) HXl.out (za6 (zbq v)) _ (HP.out.below (HA.out.out (by simp; omega)))).mono ?_; rintro e w12 ⟨rfl, hb⟩; have HS12 := Hd (HA.out.below hb); clear hb)
    | (refine zaf rfl 24 (.tmp 4) (.tmp 21) rfl HS12.out 2 rfl (u8v (shaB (catN 32 x (padN 8 (leB v))) 64)) rfl rfl (by kernel_rfl) (fun _ _ => rfl) ?_; intro wy hs; have HY := Hd hs; clear hs))
   exact za5 rfl (HY.out.row 2 rfl) _ rfl Ty24 rfl s24 rfl ⟨rfl, HY.out.out (by simp; omega)⟩
end Go.Proofs.YtomilckcgmhfcaaDoor
