/- A part of what the proofs stand on: TreeMarked, TreeNew, TreeNil. -/
import Derived.Test.YtlcpflaofggmeaaDoorGTre14
import Derived.Test.YtlcpflaofggmeaaDoorGTre15
import Derived.Test.YtlcpflaofggmeaaDoorGTre12
import Derived.Test.YtlcpflaofggmeaaDoorGTre11
/- The changed leaves as a list: marked. -/
namespace Go.Proofs.YtlcpflaofggmeaaDoor
set_option maxRecDepth 40000
open Go.RowKit
def i64v (x : Nat → Nat) : Nat → Value := fun i => .int .i64 ((x i : Nat) : Int)
namespace TreeMarked
theorem run_bs1_I (v : Int) (w : World) : (Instr.buildSlice 23 1 #[(0, .int .i64 v)]).run Tryd.prog w = .ok (.slice (some ⟨w.heap.size, 0, none⟩) 1 1) (w.alloc (.cells #[.int .i64 v] 3)) := by simp [go_sem]
theorem shl6 (q : Nat) (h : q < 16777217) (w : World) : (binOp .shl 3 (.int .i64 (q : Int)) (.int .u64 6)).run Tryd.prog w = .ok (.int .i64 ((q * 64 : Nat) : Int)) w := by
  simp [go_sem, IntKind.wrap, IntKind.bits, IntKind.signed]
  omega
theorem orI (q c : Nat) (h : q < 16777217) (hc : c < 64) (w : World) : (binOp .or 3 (.int .i64 ((q * 64 : Nat) : Int)) (.int .i64 (c : Int))).run Tryd.prog w = .ok (.int .i64 ((q * 64 + c : Nat) : Int)) w := by
  have h1 : q * 64 ||| c = q * 64 + c := by
    have := ShufFn.or_add c q 6 (by omega)
    rw [Nat.or_comm, show (2 : Nat) ^ 6 = 64 by decide] at this
    rw [this]; omega
  have e : bits .or .i64 ((q * 64 : Nat) : Int) (c : Int) = ((q * 64 + c : Nat) : Int) := by
    show IntKind.i64.wrap ((BitVec.ofInt 64 ((q * 64 : Nat) : Int) ||| BitVec.ofInt 64 (c : Int)).toNat : Int) = _
    rw [BitVec.toNat_or, BitVec.ofInt_natCast, BitVec.ofInt_natCast, BitVec.toNat_ofNat, BitVec.toNat_ofNat, Nat.mod_eq_of_lt (by omega), Nat.mod_eq_of_lt (by omega), h1]
    simp [IntKind.wrap, IntKind.bits, IntKind.signed]
    omega
  have e2 : bits .or .i64 ((q : Int) * 64) (c : Int) = (q : Int) * 64 + (c : Int) := by simpa using e
  simp [go_sem, e2]
theorem getD_app (L : List Nat) (a : Nat) (N : Nat) : ∀ i, i < N → catF (L.length * 1) (i64v fun j => L.getD j 0) (fun _ => .int .i64 ((a : Nat) : Int)) i = i64v (fun j => (L ++ [a]).getD j 0) i ∨ L.length + 1 ≤ i := fun i _ => by
  by_cases h : L.length + 1 ≤ i
  · exact .inr h
  · left
    simp only [catF, i64v, Nat.mul_one]
    by_cases h2 : i < L.length
    · rw [if_pos h2]; simp only [List.getD]; rw [List.getElem?_append_left h2]
    · rw [if_neg h2]
      rw [show i = L.length by omega]
      simp
theorem getD_app' (L : List Nat) (a : Nat) : ∀ i, i < (L.length + 1) * 1 → catF (L.length * 1) (i64v fun j => L.getD j 0) (fun _ => .int .i64 ((a : Nat) : Int)) i = i64v (fun j => (L ++ [a]).getD j 0) i := fun i hi => by
  rcases getD_app L a (i + 1) i (by omega) with h | h
  · exact h
  · omega
end TreeMarked
open TreeFn TreeMark TreeMarked in
set_option maxHeartbeats 8000000 in
theorem marked_look (v : TV) (base T : Nat) (w : World) (h : TM w base T v) (hdw : ∀ k, k < v.dn → v.dw k < 18446744073709551616) (hdn : v.dn ≤ 16777216) (hp : TzPkg w) :
    Calls Tryd.prog 27 #[tpV T] w fun r w' => ∃ C cC, r = .returned (.slice C (filL (dirB v.dn v.dw) (v.dn * 64)).length cC) ∧ OwnZ w' w.heap.size 3 1 C (filL (dirB v.dn v.dw) (v.dn * 64)).length cC (i64v fun j => (filL (dirB v.dn v.dw) (v.dn * 64)).getD j 0) ∧ Below w.heap.size w w' := by
  have H0 := Lib.hid h
  have HP := Lib.hid hp
  have HDw := Lib.hid hdw
  obtain ⟨n, hn⟩ : ∃ n, v.dn = n := ⟨_, rfl⟩
  obtain ⟨dw, hd⟩ : ∃ dw, v.dw = dw := ⟨_, rfl⟩
  rw [hn, hd] at HDw
  rw [hn] at hdn
  have HN := Lib.hid hn
  have HD := Lib.hid hd
  have hlt := hp.lt
  rw [hn, hd]
  clear h hdw hp hn hd
  go_enter Tryd.func27, Tryd.ntmps27
  go_wp2_with (refine wpList_as rfl 9 rfl (.slice v.dA n v.dc) ?_ ?_; (· exact ex_ldSl rfl rfl Tryd.underlying56 H0.out.c3 (by rw [HN.out])))
  go_loopw [3, 11] (fun l i wr => ∃ (q : Nat) (C : Option Addr) (cC : Nat), l = .slice C (filL (dirB n dw) (q * 64)).length cC ∧ i = .int .i64 (q : Int) ∧ q ≤ n ∧ OwnZ wr w.heap.size 3 1 C (filL (dirB n dw) (q * 64)).length cC (i64v fun j => (filL (dirB n dw) (q * 64)).getD j 0) ∧ Below w.heap.size w wr) (fun _ i _ => n - (intOf i).toNat)
  case atStart => exact ⟨0, none, 0, rfl, rfl, Nat.zero_le _, OwnZ.nil _ _ _ _ _, Below.refl _ _⟩
  case round =>
    obtain ⟨q, C, cC, rfl, rfl, hq, ho, hb⟩ := hrel
    have HO := Lib.hid ho
    have HB := Lib.hid hb
    clear ho hb
    by_cases hqn : q < n
    · obtain ⟨bd, hbd⟩ := own_some H0.out.dr (by rw [HN.out]; omega)
      have HBd := Lib.hid hbd
      rw [hbd]
      have HM := Lib.hid (H0.out.below HB.out)
      have HC := Lib.hid (show wr.cell? ⟨bd, q, none⟩ = some (.int .u64 ((dw q : Nat) : Int)) by
        have h1 := HM.out.dr.rd
        rw [HBd.out, HN.out, HD.out] at h1
        have h2 := h1.cells (i := q) (show q < n * 1 by omega)
        rw [add_lit0] at h2
        exact h2)
      clear hbd
      go_wp2_with (first
        | (refine wpList_as rfl 14 rfl (.pointer (some ⟨bd, q, none⟩)) ?_ ?_; (· exact ex_idx rfl rfl rfl (fun w => ixW w bd n _ q hqn) _))
        | (refine wpList_as rfl 15 rfl (.int .u64 ((dw q : Nat) : Int)) ?_ ?_; (· exact ex_ld1 .u64 rfl rfl Tryd.underlying65 HC.out)))
      go_loopw [3, 5] (fun l x wz => ∃ (p y : Nat) (C : Option Addr) (cC : Nat), l = .slice C (filL (dirB n dw) (q * 64 + p)).length cC ∧ x = .int .u64 (y : Int) ∧ y < 18446744073709551616 ∧ p ≤ 64 ∧ Rest (dw q) p y ∧ OwnZ wz w.heap.size 3 1 C (filL (dirB n dw) (q * 64 + p)).length cC (i64v fun j => (filL (dirB n dw) (q * 64 + p)).getD j 0) ∧ Below w.heap.size w wz) (fun _ x _ => (intOf x).toNat)
      case atStart => exact ⟨0, dw q, C, cC, rfl, rfl, HDw.out q hqn, by omega, rest_start _, HO.out, HB.out⟩
      case round =>
        clear HO HB HM HC
        obtain ⟨p, y, C, cC, rfl, rfl, hy, hp64, hr, ho, hb⟩ := hrel
        have HO := Lib.hid ho
        have HB := Lib.hid hb
        have HRs := Lib.hid hr
        have hsz := hb.size
        clear ho hb hr
        rcases Nat.eq_zero_or_pos y with h0 | h0
        · subst h0
          have hz := fil_ext (t := dirB n dw) (a := q * 64 + p) (64 - p) (fun i h1 h2 => by
            obtain ⟨j, rfl⟩ : ∃ j, i = q * 64 + j := ⟨i - q * 64, by omega⟩
            rw [dir_word hqn (by omega)]
            exact rest_zero HRs.out j (by omega))
          rw [show q * 64 + p + (64 - p) = (q + 1) * 64 by omega] at hz
          have HZ := Lib.hid hz
          clear hz
          go_wp2_with fail
          go_roundw
          case rel => exact ⟨q + 1, C, cC, by rw [HZ.out], by go_num, by omega, by rw [HZ.out]; exact HO.out, HB.out⟩
          case measure => simp [intOf]; omega
        · obtain ⟨c, hc, hpc, hc64, hset, hnone, hr2⟩ := rest_step HRs.out h0 hy
          have HCt := Lib.hid hc
          have HR2 := Lib.hid hr2
          have hext := fil_ext (t := dirB n dw) (a := q * 64 + p) (c - p) (fun i h1 h2 => by
            obtain ⟨j, rfl⟩ : ∃ j, i = q * 64 + j := ⟨i - q * 64, by omega⟩
            rw [dir_word hqn (by omega)]
            exact hnone j (by omega) (by omega))
          rw [show q * 64 + p + (c - p) = q * 64 + c by omega] at hext
          have hone := fil_one (t := dirB n dw) (a := q * 64 + c) (by rw [dir_word hqn hc64]; exact hset)
          rw [hext] at hone
          have HF := Lib.hid hone
          obtain ⟨L, hL⟩ : ∃ L, L = filL (dirB n dw) (q * 64 + p) := ⟨_, rfl⟩
          rw [← hL] at HO HF ⊢
          have hlen : L.length ≤ 1073741824 + 64 := by
            rw [hL]
            unfold filL
            have := List.length_filter_le (dirB n dw) (List.range (q * 64 + p))
            rw [List.length_range] at this
            omega
          obtain ⟨z, hz⟩ : ∃ z, y &&& (y - 1) = z := ⟨_, rfl⟩
          rw [hz] at HR2
          have HZ := Lib.hid hz
          have hzy : z < y := by rw [← hz]; exact Nat.lt_of_le_of_lt Nat.and_le_right (by omega)
          have hy0 : ((y : Int) != 0) = true := by simp; omega
          obtain ⟨wo, rfl⟩ : ∃ wo : World, wo = wr := ⟨_, rfl⟩
          have HNz := Lib.hid (HS.nil wo)
          have HPz := Lib.hid (HP.out.below HB.out hlt)
          clear hL hc hr2 hone hext hnone hset hz
          go_wp2_with (first
            | (refine wpList_as rfl 24 rfl (.int .i64 ((q * 64 : Nat) : Int)) ?_ ?_; (· exact ex_bin rfl rfl rfl rfl (fun w => shl6 q (by omega) w) _))
            | (go_at_call 38; refine (tz64_look y h0 hy _ HPz.out).mono ?_; rintro r w3 ⟨rfl, hw3⟩; subst hw3; rw [HCt.out])
            | (refine wpList_as rfl 27 rfl (.int .i64 ((q * 64 + c : Nat) : Int)) ?_ ?_; (· exact ex_bin rfl rfl rfl rfl (fun w => orI q c (by omega) hc64 w) _))
            | (refine wpList_bs1s rfl (.tmp 27) (.int .i64 ((q * 64 + c : Nat) : Int)) rfl rfl (fun w => run_bs1_I _ w) HNz.out ?_; intro b5 w5 hb5 hc5 hbl hs; have HR5 := Lib.hid (hs.row 0 rfl); have HB5 := Lib.hid hbl; clear hs hbl)
            | (at_builtin; refine wpList_appZ _ (.tmp 22) (.tmp 28) 23 w.heap.size (e := 3) (z := .int .i64 0) (k := 1) (bytes := 8) (by kernel_rfl) Tryd.underlying23 (by rfl) (by omega) rfl rfl (L.length + 1) (i64v fun j => (L ++ [q * 64 + c]).getD j 0) rfl rfl (HO.out.all HB5.out) (Rd.of_row (n := 1 * 1) HR5.out (Nat.le_refl _) HR5.out.lt) (fun _ _ => rfl) rfl (getD_app' L (q * 64 + c)) ⟨by omega, by omega⟩ (Nat.le_trans hsz HB5.out.size) ?_; intro A36 c36 w36 ho36 hg36 ha36; have HO36 := Lib.hid ho36; have HB36 := Lib.hid (below_app (HB.out.trans (HB5.out.mono hsz)) hg36 (Nat.le_trans hsz HB5.out.size) (fun ad e => (HO.out.base_le ad e).1)); clear ho36 hg36 ha36)
            | (refine wpList_as rfl 20 rfl (.int .u64 ((y - 1 : Nat) : Int)) ?_ ?_; (· exact ex_bin rfl rfl rfl rfl (fun w => ShufFn.subU y 1 (by omega) w hy) _))
            | (refine wpList_as rfl 21 rfl (.int .u64 (z : Int)) ?_ ?_; (· exact ex_bin rfl rfl rfl rfl (fun w => ShufFn.andU y (y - 1) z hy (by omega) HZ.out w) _)))
          go_roundw
          case rel => exact ⟨c + 1, z, A36, c36, by rw [← Nat.add_assoc, HF.out]; simp, rfl, by omega, by omega, HR2.out, by rw [← Nat.add_assoc, HF.out, List.length_append]; exact HO36.out, HB36.out⟩
          case measure => simp [intOf]; omega
    · obtain rfl : q = n := by omega
      go_wp2_with fail
      go_ret
      exact ⟨C, cC, rfl, HO.out, HB.out⟩
end Go.Proofs.YtlcpflaofggmeaaDoor
/- A new tree. (Printed by a program of mine.) -/
namespace Go.Proofs.YtlcpflaofggmeaaDoor
set_option maxRecDepth 40000
open Go.RowKit
/-- The cells of a tree that is being made. -/
def newF (l D lb : Nat) (zA : Option Addr) (d zc : Nat) : Nat → Value := fun i => if i = 0 then .int .i64 (l : Int) else if i = 1 then .slice zA d zc else if i = 2 then .slice (some ⟨lb, 0, none⟩) (D + 1) (D + 1) else if i = 3 then .slice none 0 0 else .int .i64 0
namespace TreeNew
theorem built_tree (l : Int) (lb n c : Nat) : Tryd.prog.built 58 [(0, .int .i64 l), (2, .slice (some ⟨lb, 0, none⟩) n c)] = some #[.int .i64 l, .slice none 0 0, .slice (some ⟨lb, 0, none⟩) n c, .slice none 0 0, .int .i64 0] := by kernel_rfl
theorem new_arr (l D lb : Nat) : (#[.int .i64 (l : Int), .slice none 0 0, .slice (some ⟨lb, 0, none⟩) (D + 1) (D + 1), .slice none 0 0, .int .i64 0] : Array Value) = arr 5 (newF l D lb none 0 0) := by
  unfold arr newF
  rfl
theorem new_step (l D lb : Nat) (A A' : Option Addr) (d d' c c' : Nat) : ∀ j, j < 5 → (if j = 1 then .slice A' d' c' else newF l D lb A d c j) = newF l D lb A' d' c' j := fun j _ => by
  unfold newF
  by_cases h : j = 1
  · subst h; rfl
  · simp only [if_neg h]
theorem made_slices (n : Nat) : ∀ i, i < n * 1 → (madeCells (Value.slice none 0 0).cells (n * 1))[i]? = some ((fun _ => Value.slice none 0 0 : Nat → Value) i) := fun i hi => by
  have hi' : i < n := by omega
  simp [madeCells, Value.cells, hi', Nat.mod_one]
theorem cat_zrs (d : Nat) : ∀ i, i < (d + 1) * 32 → catF (d * 32) (u8v zrsN) (u8v (zrN d)) i = u8v zrsN i := fun i hi => by
  simp only [catF, u8v]
  by_cases h : i < d * 32
  · rw [if_pos h]
  · rw [if_neg h]
    unfold zrsN
    rw [show i / 32 = d by omega, show i % 32 = i - d * 32 by omega]
theorem len_dep (l : Nat) (h : 1 ≤ l) (hl : l ≤ 18446744073709551616) : Lib.bitLen (l - 1) = dep l := by
  rcases Nat.lt_or_ge l 2 with h1 | h1
  · obtain rfl : l = 1 := by omega
    rfl
  · exact bitLen_dep l h1 hl
theorem gtI' (a b : Nat) (h : a ≤ b) (w : World) : (binOp .gtr 3 (.int .i64 (a : Int)) (.int .i64 (b : Int))).run Tryd.prog w = .ok (.bool false) w := by
  simp [go_sem]; omega
theorem ltI1 (a b : Nat) (h : b ≤ a) (w : World) : (binOp .lss 3 (.int .i64 (a : Int)) (.int .i64 (b : Int))).run Tryd.prog w = .ok (.bool false) w := by
  simp [go_sem]; omega
theorem addI (d : Nat) (h : d < 4611686018427387904) (w : World) : (binOp .add 3 (.int .i64 (d : Int)) (.int .i64 1)).run Tryd.prog w = .ok (.int .i64 ((d + 1 : Nat) : Int)) w := by
  simp [go_sem, IntKind.wrap, IntKind.bits, IntKind.signed]; omega
theorem subI (l m : Nat) (h : l = m + 1) (hl : l < 4611686018427387904) (w : World) : (binOp .sub 3 (.int .i64 (l : Int)) (.int .i64 1)).run Tryd.prog w = .ok (.int .i64 (m : Int)) w := by
  subst h
  simp [go_sem, IntKind.wrap, IntKind.bits, IntKind.signed]; omega
/-- One cell of row k is laid, of an operation by itself. -/
theorem wp_st1G {P : Program} {o : Oper} {a : Act} {w w0 : World} {K : Act → World → Prop} {Q : Exit → Act → World → Prop} {rows : List RowSpec} (ty : TypeId) (x y : Operand) (ho : o.op = .store ty x y) (h : HS w0 w rows) (k : Nat) {b : Nat} {t : TypeId} {n : Nat} {f : Nat → Value} (hk : rows[k]? = some ⟨b, t, n, f⟩) (off : Nat) (v : Value)
    (hst : ∀ (w : World) (ad : Addr) (u : Value), w.cell? ad = some u → w.frozen? ad = false → (Instr.storeAt ty (.pointer (some ad)) v).run P w = .ok () (w.setCell ad v)) (hx : a.eval x = .pointer (some ⟨b, off, none⟩)) (hy : a.eval y = v) (hfit : off < n) (g : Nat → Value) (hg : ∀ j, j < n → (if j = off then v else f j) = g j)
    (hK : ∀ w', HS w0 w' (rows.set k ⟨b, t, n, g⟩) → w.grownBy w' (some b) → K (a.put o.dst undef) w') : o.wp P a w K Q := by
  have hrun := hst w ⟨b, off, none⟩ _ (h.cell k off hk hfit) (h.frozen k off hk)
  unfold Oper.wp execOp
  simp only [ho, hx, hy, Sem.run_bind, hrun, Result.andThen_ok, Sem.run_pure]
  refine hK _ ?_ (grown_setCell (World.grownBy.refl _ _) (.inl rfl) _)
  have h1 := (h.set k off hk v).congr k (g := g) (b := b) (t := t) (n := n) (f := fun j => if j = off then v else f j) (by
    obtain ⟨hk', _⟩ := List.getElem?_eq_some_iff.1 hk
    rw [List.getElem?_set]; simp [hk']) hg
  rwa [List.set_set] at h1
theorem size_own {w : World} {B c d : Nat} {A : Option Addr} {f : Nat → Value} (h : OwnZ w B 30 32 A (d + 1) c f) (_h : True) : B ≤ w.heap.size := by
  obtain ⟨b, e⟩ := own_some h (by omega)
  have := h.base_le _ e
  simp only at this
  omega
/-- A tree without leaves. -/
def newV (l D : Nat) (zA : Option Addr) (zc lb : Nat) : TV := ⟨l, D, zA, zc, lb, D + 1, none, 0, 0, fun _ => 0, 0, fun _ => none, fun _ => 0, fun _ => 0, fun _ _ => 0⟩
theorem cnt_0 : ∀ d, cnt d 0 = 0 := by
  intro d
  induction d with
  | zero => rfl
  | succ d ih => rw [cnt, ih]
theorem new_st (l D : Nat) (zA : Option Addr) (zc lb : Nat) (h : l ≤ 1073741824) (hd : l ≤ 2 ^ D) (h30 : D ≤ 30) : TSt (newV l D zA zc lb) 0 (fun _ => 0) where
  n0 := rfl
  x0 := fun i hi => by omega
  lev := fun d _ => ⟨Nat.zero_le _, fun j hj => by rw [cnt_0] at hj; omega⟩
  nle := Nat.zero_le _
  lim := h
  dep := hd
  D30 := h30
  dw := fun k hk => by have : k < 0 := hk; omega
  dn := by show 0 * 64 < 0 + 64; omega
  g8 := fun _ _ => by show 0 < 256; omega
  tn := fun a ha => by simp [newV, dirB] at ha
theorem new_tm {w w' w5 : World} {l D T lb zc : Nat} {zA : Option Addr} (hT : T < w5.heap.size) (hl : lb < w5.heap.size) (h5 : w.heap.size ≤ w5.heap.size) (hTw : w.heap.size ≤ T) (hne : T ≠ lb) (hs : HS w w' [⟨T, 58, 5, newF l D lb zA (D + 1) zc⟩, ⟨lb, 22, (D + 1) * 1, fun _ => .slice none 0 0⟩]) (hlw : w.heap.size ≤ lb)
    (ho : OwnZ w' w5.heap.size 30 32 zA (D + 1) zc (u8v zrsN)) : TM w' w.heap.size T (newV l D zA zc lb) where
  baseT := hTw
  row := (hs.row 0 rfl).congr (fun i _ => rfl)
  zr := ho.rd
  zb := fun b hb => Nat.le_trans h5 (ho.on hb).1
  baseL := hlw
  lrow := ⟨fun _ => .slice none 0 0, by have h := hs.row 1 rfl; rw [Nat.mul_one] at h; exact h, fun _ _ => rfl⟩
  lcap := Nat.le_refl _
  lv := fun _ _ => OwnZ.nil _ _ _ _ _
  dr := OwnZ.nil _ _ _ _ _
  apart := by
    have key : ∀ r b, TV.role (newV l D zA zc lb) T r b → (r = 0 ∧ b = T) ∨ (r = 1 ∧ b = lb) := fun r b hr => by
      match r, hr with
      | 0, hr => exact .inl ⟨rfl, hr⟩
      | 1, hr => exact .inr ⟨rfl, hr⟩
      | 2, hr => obtain ⟨ad, e, _⟩ := hr; cases e
      | k + 3, hr => obtain ⟨_, ad, e, _⟩ := hr; cases e
    intro r r' b h1 h2
    rcases key r b h1 with ⟨e1, e2⟩ | ⟨e1, e2⟩ <;> rcases key r' b h2 with ⟨e3, e4⟩ | ⟨e3, e4⟩
    · omega
    · exact absurd (e2.symm.trans e4) hne
    · exact absurd (e4.symm.trans e2) hne
    · omega
  zapart := by
    rintro b hb ⟨r, hr⟩
    have h1 := (ho.on hb).1
    match r, hr with
    | 0, hr => have : b = T := hr; omega
    | 1, hr => have : b = lb := hr; omega
    | 2, hr => obtain ⟨ad, e, _⟩ := hr; cases e
    | k + 3, hr => obtain ⟨_, ad, e, _⟩ := hr; cases e
end TreeNew
open MerkleFn TreeMark TreeNew in
set_option maxHeartbeats 16000000 in
theorem tnew_look (l : Nat) (h1 : 1 ≤ l) (h2 : l ≤ 1073741824) (w : World) (hp : ShaPkg w) :
    Calls Tryd.prog 9 #[.int .i64 (l : Int)] w fun r w' => ∃ (T : Nat) (v : TV), r = .returned (tpV T) ∧ TM w' w.heap.size T v ∧ TSt v 0 (fun _ => 0) ∧ v.lim = l ∧ v.H = 0 ∧ v.D = dep l ∧ (∀ a, dirB v.dn v.dw a = false) ∧ Below w.heap.size w w' := by
  have HP := Lib.hid hp
  have HS0 := Lib.hid (HS.nil w)
  obtain ⟨D, hD⟩ : ∃ D, D = dep l := ⟨_, rfl⟩
  have hD30 : D ≤ 30 := by rw [hD]; exact dep_le (by rw [show (2 : Nat) ^ 30 = 1073741824 by decide]; exact h2)
  have HDd := Lib.hid hD
  obtain ⟨m, hm⟩ : ∃ m, l = m + 1 := ⟨l - 1, by omega⟩
  have HLen := Lib.hid (show Lib.bitLen m = D by rw [hD, ← len_dep l h1 (by omega), hm, Nat.add_sub_cancel])
  have HMm := Lib.hid hm
  have hml : m < l := by omega
  clear hp hD hm
  go_enter Tryd.func9, Tryd.ntmps9
  go_wp2_with (first
    | (refine wpList_as rfl 9 rfl (.bool false) ?_ ?_; (· exact ex_bin rfl rfl rfl rfl (fun w => ltI1 l 1 h1 w) _))
    | (refine wpList_asG rfl rfl rfl 12 rfl (.bool false) ?_ ?_; (· exact ex_bin rfl rfl rfl rfl (fun w => gtI' l 1073741824 h2 w) _))
    | (refine wpList_as rfl 15 rfl (.int .i64 (m : Int)) ?_ ?_; (· exact ex_bin rfl rfl rfl rfl (fun w => subI l m HMm.out (by omega) w) _))
    | (refine wpList_as rfl 16 rfl (.int .u64 (m : Int)) ?_ ?_; (· exact ex_cnv rfl rfl (fun w => TreeRef.cvu m (by omega) w) _))
    | (go_at_call 24; refine (len_look m (by omega) _).mono ?_; rintro e w2 ⟨rfl, hw2⟩; rw [hw2, HLen.out]; clear hw2 w2)
    | (refine wpList_as rfl 20 rfl (.int .i64 ((D + 1 : Nat) : Int)) ?_ ?_; (· exact ex_bin rfl rfl rfl rfl (fun w => addI D (by omega) w) _))
    | (refine wpList_makeL rfl 55 (e := 22) (z := .slice none 0 0) (k := 1) (bytes := 24) Tryd.underlying55 (by kernel_rfl) (.tmp 20) (.tmp 20) rfl (D + 1) rfl rfl (fun _ => .slice none 0 0) (made_slices (D + 1)) (by omega) (by omega) HS0.out ?_; intro lb w3 hlb hlc hs; have HS3 := Lib.hid hs; clear hs)
    | (refine wpList_build_as rfl 58 #[(0, .tmp 18), (2, .tmp 21)] rfl [(0, .int .i64 (l : Int)), (2, .slice (some ⟨lb, 0, none⟩) (D + 1) (D + 1))] rfl (arr 5 (newF l D lb none 0 0)) (by rw [← new_arr]; exact built_tree _ _ _ _) ?_)
    | (refine wpList_boxL rfl 58 _ 23 rfl rfl HS3.out 5 (newF l D lb none 0 0) rfl ?_; intro T w5 hT5 hc5 hs; have HS5 := Lib.hid hs; have hTl : T < w5.heap.size := hs.lt 0 rfl; have hlbl : lb < w5.heap.size := hs.lt 1 rfl; have hTlb : lb < T := Nat.lt_of_lt_of_le (HS3.out.lt 0 rfl) hc5; have hz5 : w.heap.size ≤ w5.heap.size := hs.size; clear hs)
    | (refine wpList_as rfl 25 rfl (.int .i64 ((D + 1 : Nat) : Int)) ?_ ?_; (· exact ex_bin rfl rfl rfl rfl (fun w => addI D (by omega) w) _)))
  go_loopw [26] (fun i wr => ∃ (d : Nat) (zA : Option Addr) (zc : Nat), i = .int .i64 (d : Int) ∧ d ≤ D + 1 ∧ HS w wr [⟨T, 58, 5, newF l D lb zA d zc⟩, ⟨lb, 22, (D + 1) * 1, fun _ => .slice none 0 0⟩] ∧ OwnZ wr w5.heap.size 30 32 zA d zc (u8v zrsN) ∧ w5.heap.size ≤ wr.heap.size) (fun i _ => D + 1 - (intOf i).toNat)
  case atStart => exact ⟨0, none, 0, rfl, by omega, HS5.out, OwnZ.nil _ _ _ _ _, Nat.le_refl _⟩
  case round =>
    clear HS5 HS3 HS0
    obtain ⟨d, zA, zc, rfl, hd, hs, ho, hsz⟩ := hrel
    have HSq := Lib.hid hs
    have HZq := Lib.hid ho
    clear hs ho
    obtain ⟨wo, rfl⟩ : ∃ wo : World, wo = wr := ⟨_, rfl⟩
    by_cases hdn : d < D + 1
    · have HN := Lib.hid (HS.nil wo)
      go_upto_region 9 with (first
        | (go_at_call 25; refine (zero_ok d (by omega) _ (HP.out.below (HSq.out.out (by simp; omega)))).mono ?_; rintro r w6 ⟨rfl, hb⟩; have HN6 := Lib.hid (HN.out.below hb); clear hb)
        | (refine wpList_allocL rfl 30 6 rfl rfl HN6.out (Array.replicate 32 (.int .u8 0)) (by kernel_rfl) 32 (u8v fun _ => 0) (by rfl) (zero_at 32 (.int .u8 0)) ?_; intro b6 w7 hb6 hc6 hs; have HN7 := Lib.hid hs; clear hs)
        | (refine wpList_storeH rfl 30 (.tmp 6) (.tmp 32) rfl HN7.out 0 rfl (u8v (zrN d)) rfl rfl (by kernel_rfl) (fun _ _ => rfl) ?_; intro wx hs; have HNx := Lib.hid hs; have HBx := Lib.hid (hs.out (by simp; omega)); clear hs))
      have HSx := Lib.hid (HSq.out.below HBx.out)
      have HZx := Lib.hid (HZq.out.all HBx.out)
      have HRx := Lib.hid (HNx.out.row 0 rfl)
      have hszx := HBx.out.size
      clear HNx HN7 HN6 HN HSq HZq HBx
      refine ord_enter (n := 11) (by kernel_rfl) (by kernel_rfl) ?_
      have HSv0 := Lib.hid HSx.out.drew
      have HZv0 : Hid (OwnZ wx.drew w5.heap.size 30 32 zA d zc (u8v zrsN)) := Lib.hid HZx.out
      have HRv0 : Hid (wx.drew.rowIs b6 30 32 (u8v (zrN d))) := Lib.hid HRx.out
      have hszv : wo.heap.size ≤ wx.drew.heap.size := hszx
      generalize wx.drew = wv at HSv0 HZv0 HRv0 hszv ⊢
      have HSv := Lib.hid HSv0.out
      have HZv := Lib.hid HZv0.out
      have HRv := Lib.hid HRv0.out
      clear HSv0 HZv0 HRv0 HSx HZx HRx hszx
      refine ord_take (i := 0) (tpV T) rfl (by kernel_rfl) (by kernel_rfl) (by kernel_rfl) rfl (fun _ _ _ h => h) (ex_move (.inl rfl) rfl) ?_
      refine ord_take (i := 1) (tpV T) rfl (by kernel_rfl) (by kernel_rfl) (by kernel_rfl) rfl (fun _ _ _ h => h) (ex_move (.inl rfl) rfl) ?_
      simp only [Act.put, List.setIfInBounds_toArray, List.set_cons_succ, List.set_cons_zero]
      refine ord_take (i := 2) (tpV T) rfl (by kernel_rfl) (by kernel_rfl) (by kernel_rfl) rfl (fun _ _ _ h => h) (ex_nil rfl rfl) ?_
      simp only [Act.put, List.setIfInBounds_toArray, List.set_cons_succ, List.set_cons_zero]
      refine ord_take (i := 3) (.pointer (some ⟨T, 1, none⟩)) rfl (by kernel_rfl) (by kernel_rfl) (by kernel_rfl) rfl (fun _ _ _ h => h) (ex_fld rfl rfl (fun w => by simp [go_sem])) ?_
      simp only [Act.put, List.setIfInBounds_toArray, List.set_cons_succ, List.set_cons_zero]
      refine ord_two (i := 4) (j := 5) rfl rfl (by kernel_rfl) rfl rfl (fun K hK => ?_) (fun K hK => ?_)
      · refine wp_as (.slice zA d zc) (ex_ldSl rfl rfl Tryd.underlying22 (HSv.out.cell 0 1 rfl (show 1 < 5 by omega)) rfl) ?_
        refine hK _ _ ?_
        clear hK
        simp only [Act.put, List.setIfInBounds_toArray, List.set_cons_succ, List.set_cons_zero]
        refine ord_step (i := 5) rfl (by kernel_rfl) rfl (fun K hK => ?_)
        refine wp_as (rootV (zrN d)) (ex_ldR 32 (u8v (zrN d)) rfl rfl (fun q hq => by rw [add_lit0]; exact HRv.out.cell hq) Tryd.underlying30 rfl (by kernel_rfl)) ?_
        refine hK _ _ ?_
        clear hK
        simp only [Act.put, List.setIfInBounds_toArray, List.set_cons_succ, List.set_cons_zero]
        refine ord_step (i := 6) rfl (by kernel_rfl) rfl (fun K hK => ?_)
        refine wp_bs1L Tryd.underlying22 (z := 32) (by kernel_rfl) (by omega) (by omega) (v0 := .agg (Array.replicate 32 (.int .u8 0))) (by kernel_rfl) _ rfl (u8v (zrN d)) rfl (HS.nil _) ?_
        intro b7 w7 hb7 hc7 hs
        have HR7 := Lib.hid (hs.row 0 rfl)
        have HB7 := Lib.hid (hs.out (by simp; omega))
        have HS7 := Lib.hid (HSv.out.below HB7.out)
        have HZ7 := Lib.hid (HZv.out.all HB7.out)
        have HR5 := Lib.hid (row_below HRv.out HB7.out HRv.out.lt)
        clear hs
        refine hK _ _ ?_
        clear hK
        simp only [Act.put, List.setIfInBounds_toArray, List.set_cons_succ, List.set_cons_zero]
        refine ord_step (i := 7) rfl (by kernel_rfl) rfl (fun K hK => ?_)
        refine wp_appZ _ (.tmp 38) (.tmp 40) 22 w5.heap.size (e := 30) (z := .agg (Array.replicate 32 (.int .u8 0))) (k := 32) (bytes := 32) (by kernel_rfl) Tryd.underlying22 (by rfl) (by omega) rfl (d + 1) (u8v zrsN) rfl rfl HZ7.out (Rd.of_row (n := 1 * 32) HR7.out (Nat.le_refl _) HR7.out.lt) (fun _ _ => rfl) rfl (cat_zrs d) ⟨by omega, by omega⟩ (by have := HB7.out.size; omega) ?_
        intro A8 c8 w8 ho hg ha
        have HZ8 := Lib.hid ho
        have HS8 := Lib.hid (HS7.out.appO hg (B := w5.heap.size) (fun ad e => (HZ7.out.base_le ad e).1) (by simp; omega))
        clear ho hg ha
        refine hK _ _ ?_
        clear hK
        simp only [Act.put, List.setIfInBounds_toArray, List.set_cons_succ, List.set_cons_zero]
        refine ord_take (i := 8) (tpV T) rfl (by kernel_rfl) (by kernel_rfl) (by kernel_rfl) rfl (fun _ _ _ h => h) (ex_nil rfl rfl) ?_
        simp only [Act.put, List.setIfInBounds_toArray, List.set_cons_succ, List.set_cons_zero]
        refine ord_take (i := 9) (.pointer (some ⟨T, 1, none⟩)) rfl (by kernel_rfl) (by kernel_rfl) (by kernel_rfl) rfl (fun _ _ _ h => h) (ex_fld rfl rfl (fun w => by simp [go_sem])) ?_
        simp only [Act.put, List.setIfInBounds_toArray, List.set_cons_succ, List.set_cons_zero]
        refine ord_step (i := 10) rfl (by kernel_rfl) rfl (fun K hK => ?_)
        refine wp_st1G 22 (.tmp 43) (.tmp 41) rfl HS8.out 0 rfl 1 (.slice A8 (d + 1) c8) (StCopy.stSlR _ _ _) rfl rfl (show 1 < 5 by omega) (newF l D lb A8 (d + 1) c8) (new_step l D lb _ _ _ _ _ _) ?_
        intro w9 hs hg
        have HS9 := Lib.hid hs
        have HZ9 := Lib.hid (HZ8.out.kept hg (fun ad e => by have := (HZ8.out.base_le ad e).1; intro e2; injection e2 with e2; omega))
        clear hs hg
        refine hK _ _ ?_
        clear hK
        simp only [Act.put]
        refine wpAny_done (by kernel_rfl) ?_ _
        have hsz9 := HS9.out.size
        clear HS8 HZ8 HS7 HZ7 HR7 HR5
        go_wp2_with fail
        go_roundw
        case rel => exact ⟨d + 1, A8, c8, by go_num, by omega, HS9.out, HZ9.out, size_own HZ9.out trivial⟩
        case measure => simp [intOf]; omega
      · refine wp_as (rootV (zrN d)) (ex_ldR 32 (u8v (zrN d)) rfl rfl (fun q hq => by rw [add_lit0]; exact HRv.out.cell hq) Tryd.underlying30 rfl (by kernel_rfl)) ?_
        refine hK _ _ ?_
        clear hK
        simp only [Act.put, List.setIfInBounds_toArray, List.set_cons_succ, List.set_cons_zero]
        refine ord_two (i := 4) (j := 6) rfl rfl (by kernel_rfl) rfl rfl (fun K hK => ?_) (fun K hK => ?_)
        · refine wp_as (.slice zA d zc) (ex_ldSl rfl rfl Tryd.underlying22 (HSv.out.cell 0 1 rfl (show 1 < 5 by omega)) rfl) ?_
          refine hK _ _ ?_
          clear hK
          simp only [Act.put, List.setIfInBounds_toArray, List.set_cons_succ, List.set_cons_zero]
          refine ord_step (i := 6) rfl (by kernel_rfl) rfl (fun K hK => ?_)
          refine wp_bs1L Tryd.underlying22 (z := 32) (by kernel_rfl) (by omega) (by omega) (v0 := .agg (Array.replicate 32 (.int .u8 0))) (by kernel_rfl) _ rfl (u8v (zrN d)) rfl (HS.nil _) ?_
          intro b7 w7 hb7 hc7 hs
          have HR7 := Lib.hid (hs.row 0 rfl)
          have HB7 := Lib.hid (hs.out (by simp; omega))
          have HS7 := Lib.hid (HSv.out.below HB7.out)
          have HZ7 := Lib.hid (HZv.out.all HB7.out)
          have HR5 := Lib.hid (row_below HRv.out HB7.out HRv.out.lt)
          clear hs
          refine hK _ _ ?_
          clear hK
          simp only [Act.put, List.setIfInBounds_toArray, List.set_cons_succ, List.set_cons_zero]
          refine ord_step (i := 7) rfl (by kernel_rfl) rfl (fun K hK => ?_)
          refine wp_appZ _ (.tmp 38) (.tmp 40) 22 w5.heap.size (e := 30) (z := .agg (Array.replicate 32 (.int .u8 0))) (k := 32) (bytes := 32) (by kernel_rfl) Tryd.underlying22 (by rfl) (by omega) rfl (d + 1) (u8v zrsN) rfl rfl HZ7.out (Rd.of_row (n := 1 * 32) HR7.out (Nat.le_refl _) HR7.out.lt) (fun _ _ => rfl) rfl (cat_zrs d) ⟨by omega, by omega⟩ (by have := HB7.out.size; omega) ?_
          intro A8 c8 w8 ho hg ha
          have HZ8 := Lib.hid ho
          have HS8 := Lib.hid (HS7.out.appO hg (B := w5.heap.size) (fun ad e => (HZ7.out.base_le ad e).1) (by simp; omega))
          clear ho hg ha
          refine hK _ _ ?_
          clear hK
          simp only [Act.put, List.setIfInBounds_toArray, List.set_cons_succ, List.set_cons_zero]
          refine ord_take (i := 8) (tpV T) rfl (by kernel_rfl) (by kernel_rfl) (by kernel_rfl) rfl (fun _ _ _ h => h) (ex_nil rfl rfl) ?_
          simp only [Act.put, List.setIfInBounds_toArray, List.set_cons_succ, List.set_cons_zero]
          refine ord_take (i := 9) (.pointer (some ⟨T, 1, none⟩)) rfl (by kernel_rfl) (by kernel_rfl) (by kernel_rfl) rfl (fun _ _ _ h => h) (ex_fld rfl rfl (fun w => by simp [go_sem])) ?_
          simp only [Act.put, List.setIfInBounds_toArray, List.set_cons_succ, List.set_cons_zero]
          refine ord_step (i := 10) rfl (by kernel_rfl) rfl (fun K hK => ?_)
          refine wp_st1G 22 (.tmp 43) (.tmp 41) rfl HS8.out 0 rfl 1 (.slice A8 (d + 1) c8) (StCopy.stSlR _ _ _) rfl rfl (show 1 < 5 by omega) (newF l D lb A8 (d + 1) c8) (new_step l D lb _ _ _ _ _ _) ?_
          intro w9 hs hg
          have HS9 := Lib.hid hs
          have HZ9 := Lib.hid (HZ8.out.kept hg (fun ad e => by have := (HZ8.out.base_le ad e).1; intro e2; injection e2 with e2; omega))
          clear hs hg
          refine hK _ _ ?_
          clear hK
          simp only [Act.put]
          refine wpAny_done (by kernel_rfl) ?_ _
          have hsz9 := HS9.out.size
          clear HS8 HZ8 HS7 HZ7 HR7 HR5
          go_wp2_with fail
          go_roundw
          case rel => exact ⟨d + 1, A8, c8, by go_num, by omega, HS9.out, HZ9.out, size_own HZ9.out trivial⟩
          case measure => simp [intOf]; omega
        · refine wp_bs1L Tryd.underlying22 (z := 32) (by kernel_rfl) (by omega) (by omega) (v0 := .agg (Array.replicate 32 (.int .u8 0))) (by kernel_rfl) _ rfl (u8v (zrN d)) rfl (HS.nil _) ?_
          intro b7 w7 hb7 hc7 hs
          have HR7 := Lib.hid (hs.row 0 rfl)
          have HB7 := Lib.hid (hs.out (by simp; omega))
          have HS7 := Lib.hid (HSv.out.below HB7.out)
          have HZ7 := Lib.hid (HZv.out.all HB7.out)
          have HR5 := Lib.hid (row_below HRv.out HB7.out HRv.out.lt)
          clear hs
          refine hK _ _ ?_
          clear hK
          simp only [Act.put, List.setIfInBounds_toArray, List.set_cons_succ, List.set_cons_zero]
          refine ord_step (i := 4) rfl (by kernel_rfl) rfl (fun K hK => ?_)
          refine wp_as (.slice zA d zc) (ex_ldSl rfl rfl Tryd.underlying22 (HS7.out.cell 0 1 rfl (show 1 < 5 by omega)) rfl) ?_
          refine hK _ _ ?_
          clear hK
          simp only [Act.put, List.setIfInBounds_toArray, List.set_cons_succ, List.set_cons_zero]
          refine ord_step (i := 7) rfl (by kernel_rfl) rfl (fun K hK => ?_)
          refine wp_appZ _ (.tmp 38) (.tmp 40) 22 w5.heap.size (e := 30) (z := .agg (Array.replicate 32 (.int .u8 0))) (k := 32) (bytes := 32) (by kernel_rfl) Tryd.underlying22 (by rfl) (by omega) rfl (d + 1) (u8v zrsN) rfl rfl HZ7.out (Rd.of_row (n := 1 * 32) HR7.out (Nat.le_refl _) HR7.out.lt) (fun _ _ => rfl) rfl (cat_zrs d) ⟨by omega, by omega⟩ (by have := HB7.out.size; omega) ?_
          intro A8 c8 w8 ho hg ha
          have HZ8 := Lib.hid ho
          have HS8 := Lib.hid (HS7.out.appO hg (B := w5.heap.size) (fun ad e => (HZ7.out.base_le ad e).1) (by simp; omega))
          clear ho hg ha
          refine hK _ _ ?_
          clear hK
          simp only [Act.put, List.setIfInBounds_toArray, List.set_cons_succ, List.set_cons_zero]
          refine ord_take (i := 8) (tpV T) rfl (by kernel_rfl) (by kernel_rfl) (by kernel_rfl) rfl (fun _ _ _ h => h) (ex_nil rfl rfl) ?_
          simp only [Act.put, List.setIfInBounds_toArray, List.set_cons_succ, List.set_cons_zero]
          refine ord_take (i := 9) (.pointer (some ⟨T, 1, none⟩)) rfl (by kernel_rfl) (by kernel_rfl) (by kernel_rfl) rfl (fun _ _ _ h => h) (ex_fld rfl rfl (fun w => by simp [go_sem])) ?_
          simp only [Act.put, List.setIfInBounds_toArray, List.set_cons_succ, List.set_cons_zero]
          refine ord_step (i := 10) rfl (by kernel_rfl) rfl (fun K hK => ?_)
          refine wp_st1G 22 (.tmp 43) (.tmp 41) rfl HS8.out 0 rfl 1 (.slice A8 (d + 1) c8) (StCopy.stSlR _ _ _) rfl rfl (show 1 < 5 by omega) (newF l D lb A8 (d + 1) c8) (new_step l D lb _ _ _ _ _ _) ?_
          intro w9 hs hg
          have HS9 := Lib.hid hs
          have HZ9 := Lib.hid (HZ8.out.kept hg (fun ad e => by have := (HZ8.out.base_le ad e).1; intro e2; injection e2 with e2; omega))
          clear hs hg
          refine hK _ _ ?_
          clear hK
          simp only [Act.put]
          refine wpAny_done (by kernel_rfl) ?_ _
          have hsz9 := HS9.out.size
          clear HS8 HZ8 HS7 HZ7 HR7 HR5
          go_wp2_with fail
          go_roundw
          case rel => exact ⟨d + 1, A8, c8, by go_num, by omega, HS9.out, HZ9.out, size_own HZ9.out trivial⟩
          case measure => simp [intOf]; omega
    · obtain rfl : d = D + 1 := by omega
      go_wp2_with fail
      go_ret
      exact ⟨T, newV l D zA zc lb, rfl, new_tm hTl hlbl hz5 hT5 (fun e => by have := hTlb; omega) HSq.out hlb HZq.out, new_st l D zA zc lb h2 (by rw [HDd.out]; exact dep_ge l) hD30, rfl, rfl, HDd.out, fun a => by simp [newV, dirB], HSq.out.out (by simp; omega)⟩
end Go.Proofs.YtlcpflaofggmeaaDoor
/- No tree: New refuses, and what the methods of a nil tree say; slices.Clone of roots. -/
namespace Go.Proofs.YtlcpflaofggmeaaDoor
set_option maxRecDepth 40000
open Go.RowKit
namespace TreeNil
theorem ltI2 (a : Int) (h : a < 1) (w : World) : (binOp .lss 3 (.int .i64 a) (.int .i64 1)).run Tryd.prog w = .ok (.bool true) w := by
  simp [go_sem]; omega
theorem ltI3 (a : Int) (h : 1 ≤ a) (w : World) : (binOp .lss 3 (.int .i64 a) (.int .i64 1)).run Tryd.prog w = .ok (.bool false) w := by
  simp [go_sem]; omega
theorem gtI2 (a : Int) (h : 1073741824 < a) (w : World) : (binOp .gtr 3 (.int .i64 a) (.int .i64 1073741824)).run Tryd.prog w = .ok (.bool true) w := by
  simp [go_sem]; omega
theorem geI0 (a : Int) (h : 0 ≤ a) (w : World) : (binOp .geq 3 (.int .i64 a) (.int .i64 0)).run Tryd.prog w = .ok (.bool true) w := by
  simp [go_sem]; omega
theorem ltI4 (a : Int) (h : 0 ≤ a) (w : World) : (binOp .lss 3 (.int .i64 a) (.int .i64 0)).run Tryd.prog w = .ok (.bool false) w := by
  simp [go_sem]; omega
theorem run_bs0_R (w : World) : (Instr.buildSlice 22 0 #[]).run Tryd.prog w = .ok (.slice (some ⟨w.heap.size, 0, none⟩) 0 0) (w.alloc (.cells #[] 30)) := by simp [go_sem]
theorem eqNilR (w : World) (A : Option Addr) (n c : Nat) : (binOp .eql 22 (.slice A n c) (.slice none 0 0)).run Tryd.prog w = .ok (.bool A.isNone) w :=
  Lib.run_eql_slice_nil w _ _ A n c 0 0 Tryd.underlying22
end TreeNil
open TreeNil in
set_option maxHeartbeats 4000000 in
theorem tnew_out (l : Int) (h : l < 1 ∨ 1073741824 < l) (w : World) : Calls Tryd.prog 9 #[.int .i64 l] w fun r w' => r = .returned (.pointer none) ∧ w' = w := by
  by_cases h1 : l < 1
  · go_enter Tryd.func9, Tryd.ntmps9
    go_wp2_with (refine wpList_as rfl 9 rfl (.bool true) ?_ ?_; (· exact ex_bin rfl rfl rfl rfl (fun w => ltI2 l h1 w) _))
    go_ret
    exact ⟨rfl, rfl⟩
  · have h2 : 1073741824 < l := by omega
    have h3 : 1 ≤ l := by omega
    clear h h1
    go_enter Tryd.func9, Tryd.ntmps9
    go_wp2_with (first
      | (refine wpList_as rfl 9 rfl (.bool false) ?_ ?_; (· exact ex_bin rfl rfl rfl rfl (fun w => ltI3 l h3 w) _))
      | (refine wpList_asG rfl rfl rfl 12 rfl (.bool true) ?_ ?_; (· exact ex_bin rfl rfl rfl rfl (fun w => gtI2 l h2 w) _)))
    go_ret
    exact ⟨rfl, rfl⟩
open TreeNil TreeGet in
set_option maxHeartbeats 4000000 in
theorem tset_nil (i : Int) (y : Nat → Nat) (w : World) : Calls Tryd.prog 11 #[.pointer none, .int .i64 i, rootV y] w fun r w' => r = .returned (.int .i64 1) ∧ Below w.heap.size w w' := by
  have HS0 := Lib.hid (HS.nil w)
  by_cases h0 : i < 0
  · go_enter Tryd.func11, Tryd.ntmps11
    go_wp2_with (first
      | (refine wpList_boxL rfl 30 _ 5 rfl rfl HS0.out 32 (u8v y) rfl ?_; intro b5 w4 hb5 hc5 hs; have HB4 := Lib.hid (hs.out (by simp; omega)); clear hs)
      | (refine wpList_as rfl 8 rfl (.bool true) ?_ ?_; (· exact ex_bin rfl rfl rfl rfl (fun w => ltI0' i h0 w) _)))
    go_ret
    exact ⟨rfl, HB4.out⟩
  · have h1 : 0 ≤ i := by omega
    clear h0
    go_enter Tryd.func11, Tryd.ntmps11
    go_wp2_with (first
      | (refine wpList_boxL rfl 30 _ 5 rfl rfl HS0.out 32 (u8v y) rfl ?_; intro b5 w4 hb5 hc5 hs; have HB4 := Lib.hid (hs.out (by simp; omega)); clear hs)
      | (refine wpList_as rfl 8 rfl (.bool false) ?_ ?_; (· exact ex_bin rfl rfl rfl rfl (fun w => ltI4 i h1 w) _))
      | (go_at_call 14; refine (tlen_nil _).mono ?_; rintro r w5 ⟨rfl, hw5⟩; rw [hw5]; clear hw5 w5)
      | (refine wpList_asG rfl rfl rfl 13 rfl (.bool true) ?_ ?_; (· exact ex_bin rfl rfl rfl rfl (fun w => geI0 i h1 w) _)))
    go_ret
    exact ⟨rfl, HB4.out⟩
set_option maxHeartbeats 4000000 in
theorem tcopy_nil (w : World) : Calls Tryd.prog 18 #[.pointer none] w fun r w' => r = .returned (.pointer none) ∧ w' = w := by
  go_enter Tryd.func18, Tryd.ntmps18
  go_wp2_with fail
  go_ret
  exact ⟨rfl, rfl⟩
set_option maxHeartbeats 4000000 in
theorem troot_nil (w : World) : Calls Tryd.prog 12 #[.pointer none] w fun r w' => r = .returned (rootV fun _ => 0) ∧ Below w.heap.size w w' := by
  have HS0 := Lib.hid (HS.nil w)
  go_enter Tryd.func12, Tryd.ntmps12
  go_wp2_with (first
    | (refine wpList_allocL rfl 30 2 rfl rfl HS0.out (Array.replicate 32 (.int .u8 0)) (by kernel_rfl) 32 (u8v fun _ => 0) (by rfl) (zero_at 32 (.int .u8 0)) ?_; intro b2 w2 hb2 hc2 hs; have HS2 := Lib.hid hs; clear hs)
    | (refine wpList_build_as rfl 30 #[] rfl [] rfl (arr 32 (u8v fun _ => 0)) (by kernel_rfl) ?_)
    | (refine wpList_storeH rfl 30 (.tmp 2) (.tmp 16) rfl HS2.out 0 rfl (u8v fun _ => 0) rfl rfl (by kernel_rfl) (fun _ _ => rfl) ?_; intro wh hs; have HH := Lib.hid hs; clear hs))
  exact ret_rowIs rfl (HH.out.row 0 rfl) _ rfl Tryd.underlying30 rfl (by kernel_rfl) rfl ⟨rfl, HH.out.out (by simp; omega)⟩
open TreeNil in
set_option maxHeartbeats 2000000 in
theorem cloneR_any (n c : Nat) (A : Option Addr) (x : Nat → Nat) (w : World) (hb : Rd w w.heap.size A (n * 32) (u8v x)) (hn : n ≤ 4398046511104) (hA : A = none → c = 0) :
    Calls Tryd.prog 33 #[.slice A n c] w fun e w' => ∃ A' c', e = .returned (.slice A' n c') ∧ OwnZ w' w.heap.size 30 32 A' n c' (u8v x) ∧ Below w.heap.size w w' := by
  have HX := Lib.hid hb
  have HS0 := Lib.hid (HS.nil w)
  cases A with
  | none =>
    obtain rfl : n = 0 := by
      rcases Nat.eq_zero_or_pos n with h | h
      · exact h
      · obtain ⟨ad, h1, _⟩ := hb (by omega); cases h1
    obtain rfl := hA rfl
    go_enter Tryd.func33, Tryd.ntmps33
    go_wp2_with (refine wpList_as rfl 4 rfl (.bool true) ?_ ?_; (· exact ex_eqN rfl rfl (eqNilR w none 0 0)))
    go_ret
    exact ⟨none, 0, rfl, OwnZ.nil _ _ _ _ _, Below.refl _ _⟩
  | some ad =>
    clear hb hA
    go_enter Tryd.func33, Tryd.ntmps33
    go_wp2_with (first
      | (refine wpList_as rfl 4 rfl (.bool false) ?_ ?_; (· exact ex_eqN rfl rfl (eqNilR w (some ad) n c)))
      | (refine wpList_bs0L rfl 32 rfl run_bs0_R HS0.out ?_; intro b5 w2 hb5 hs ho; have HS2 := Lib.hid hs; have HO2 := Lib.hid ho; clear hs ho)
      | (at_builtin; refine wpList_app0L rfl (.tmp 5) (.tmp 6) 22 w.heap.size (z := .agg (Array.replicate 32 (.int .u8 0))) (k := 32) (bytes := 32) (by kernel_rfl) Tryd.underlying22 (by rfl) (by omega) rfl rfl HO2.out rfl (HX.out.below HS2.out.bel) (fun _ _ => rfl) ⟨by omega, by omega⟩ HS2.out.size HS2.out ?_; intro A7 c7 w3 ho hs; have HO3 := Lib.hid ho; have HS3 := Lib.hid hs; clear ho hs))
    go_ret
    exact ⟨A7, c7, rfl, HO3.out, HS3.out.bel⟩
end Go.Proofs.YtlcpflaofggmeaaDoor
