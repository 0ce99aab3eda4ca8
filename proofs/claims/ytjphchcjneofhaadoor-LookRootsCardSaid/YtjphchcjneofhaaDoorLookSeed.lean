/- Seeds, by the program. -/
import Derived.Test.YtjphchcjneofhaaDoorRootAt
import Derived.Test.YtjphchcjneofhaaDoorBytes
import Derived.Test.YtjphchcjneofhaaDoorShaSum
namespace Go.Proofs.YtjphchcjneofhaaDoor
open Go.RowKit
/-- The bytes that a seed is the sum of. -/
def seedF (K E : Nat) (M : Nat → Nat) : Nat → Nat := catN 12 (catN 4 (leB K) (leB E)) M
theorem seedF_lt {K E : Nat} {M : Nat → Nat} (hM : ∀ i, M i < 256) : ∀ i, seedF K E M i < 256 := catN_lt (catN_lt (leB_lt K) (leB_lt E)) hM
/-- The bytes of the mix that a seed of epoch E takes. -/
def mixN (F : Nat → Value) (E : Nat) : Nat → Nat := fun q => nat (F (723 + (E + 6) % 8 * 32 + q)) % 256
theorem mixN_lt (F : Nat → Value) (E : Nat) : ∀ i, mixN F E i < 256 := fun _ => Nat.mod_lt _ (by omega)
theorem mix_eq {F : Nat → Value} (hF : Sc F 49) (E q : Nat) (hq : q < 32) : F (723 + (E + 6) % 8 * 32 + q) = u8v (mixN F E) q := by
  have h : ∀ i, i < 8 → ∀ q, q < 32 → leafAt Tryd.prog 8 49 (723 + i * 32 + q) = some 5 := by decide +kernel
  have h2 := hF.u8 _ (h ((E + 6) % 8) (Nat.mod_lt _ (by omega)) q hq)
  show _ = Value.int .u8 ((nat (F (723 + (E + 6) % 8 * 32 + q)) % 256 : Nat) : Int)
  rw [Nat.mod_eq_of_lt h2.2]
  exact h2.1
theorem seed_cat (K E : Nat) (M m0 : Nat → Nat) : ∀ i, i < 12 + 32 → catN 12 (catN 4 (catN 0 m0 (leB K)) (leB E)) M i = seedF K E M i := fun i _ => by
  unfold seedF catN
  simp
theorem wrapU (x : Int) : IntKind.u64.wrap x = x % 18446744073709551616 := by simp [IntKind.wrap, IntKind.bits, IntKind.signed]
theorem wrap_idx {P : Program} (E : Nat) (w : World) {o : Oper} {a : Act} {x : Operand} {t : TypeId} (ho : o.op = .binOp .rem t x (.const (.int .u64 8)) t) (hx : a.eval x = .int .u64 (IntKind.u64.wrap (IntKind.u64.wrap (IntKind.u64.wrap ((E : Int) + 8) - 1) - 1))) : (execOp a.eval o).run P w = .ok (.value (.int .u64 (((E + 6) % 8 : Nat) : Int))) w := by
  unfold execOp
  rw [ho]
  simp only [hx]
  simp [Act.eval, go_sem]
  rw [Int.tmod_eq_emod_of_nonneg (by rw [wrapU]; exact Int.emod_nonneg _ (by omega)), wrapU, wrapU, wrapU]
  omega
set_option maxHeartbeats 4000000 in
theorem seed_look (F : Nat → Value) (hF : Sc F 49) (E : Nat) (k : Int) (K : Nat) (hk : IntKind.u64.wrap k = (K : Int)) (w : World) (hp : ShaPkg w) :
    Calls Tryd.prog 10 #[.agg (arr 1957 F), .int .u64 (E : Int), .int .i64 k] w fun r w' => r = .returned (rootV (shaB (seedF K E (mixN F E)) 44)) ∧ Below w.heap.size w w' := by
  have HP := Lib.hid hp
  have HSc := Lib.hid hF
  have HK := Lib.hid hk
  have HM := Lib.hid (show ((E + 6) % 8 : Nat) < 8 from Nat.mod_lt _ (by omega))
  have hlt := hp.lt
  clear hp hF hk
  have tok1 := Tok.mk 1
  go_enter Tryd.func10, Tryd.ntmps10
  go_wp2_with (first
    | (refine wpList_box rfl _ _ rfl 1957 F rfl ?_; intro w1 hr1 hb1; have HB0 := Lib.hid (((HS.nil w).below hb1).add hr1 (Nat.le_refl _) (by simp)); have hsz : w.heap.size ≤ w1.heap.size := hb1.size; clear hr1 hb1)
    | (refine wpList_allocH rfl 24 rfl HB0.out (Array.replicate 32 (.int .u8 0)) (by kernel_rfl) 32 (u8v fun _ => 0) (by rfl) (zero_at 32 (.int .u8 0)) ?_; intro w2 hs2'; have HS2 := Lib.hid hs2'; clear hs2')
    | (go_at_call 21; refine (new_any _ (HP.out.below (HS2.out.out (by simp; omega))) (seedF K E (mixN F E))).mono ?_; rintro e w3 ⟨g, rfl, hg3, hrow3, hbel3⟩; have hsz2 : w1.heap.size < w2.heap.size := HS2.out.lt 0 rfl; have HS3 := Lib.hid ((HS2.out.below hbel3).add hrow3 (by omega) (fun r hr => by have := (HS2.out.has r hr).lt; omega)); clear hrow3 hbel3)
    | (go_at_call 22; have hx : Tok 1 := (by assumption); clear hx tok1; rw [HK.out]; refine (bytes_look K _).mono ?_; rintro e w4 ⟨rfl, hb4⟩; have HS4 := Lib.hid (HS3.out.below hb4); clear hb4; have tok2 := Tok.mk 2)
    | (go_at_call 22; have hx : Tok 2 := (by assumption); clear hx tok2; refine (bytes_look E _).mono ?_; rintro e w5 ⟨rfl, hb5⟩; have HS5 := Lib.hid (HS4.out.below hb5); have hg5 : g < w5.heap.size := HS5.out.lt 0 rfl; clear hb5; have tok3 := Tok.mk 3)
    | (have hx : Tok 3 := (by assumption); refine wpList_allocH rfl 69 rfl HS5.out (Array.replicate 8 (.int .u8 0)) (by kernel_rfl) 8 (u8v fun _ => 0) (by rfl) (zero_at 8 (.int .u8 0)) ?_; clear hx tok3; intro w6 hs6; have h56 : w5.heap.size < w6.heap.size := hs6.lt 0 rfl; have HS6 := Lib.hid hs6; clear hs6; have tok4 := Tok.mk 4)
    | (have hx : Tok 4 := (by assumption); refine wpList_allocH rfl 69 rfl HS6.out (Array.replicate 8 (.int .u8 0)) (by kernel_rfl) 8 (u8v fun _ => 0) (by rfl) (zero_at 8 (.int .u8 0)) ?_; clear hx tok4; intro w7 hs7; have HS7 := Lib.hid hs7; clear hs7; have tok5 := Tok.mk 5)
    | (have hx : Tok 5 := (by assumption); refine wpList_storeH rfl 69 (.tmp 8) (.tmp 13) rfl HS7.out 1 rfl (u8v (leB K)) rfl rfl (by kernel_rfl) (fun _ _ => rfl) ?_; clear hx tok5; intro w8 hs8; have HS8 := Lib.hid hs8; clear hs8; have tok6 := Tok.mk 6)
    | (have hx : Tok 6 := (by assumption); refine wpList_storeH rfl 69 (.tmp 9) (.tmp 15) rfl HS8.out 0 rfl (u8v (leB E)) rfl rfl (by kernel_rfl) (fun _ _ => rfl) ?_; clear hx tok6; intro w9 hs9; have HD9 := Lib.hid (dig_new (seedF K E (mixN F E)) (hs9.row 2 rfl)); have HS9 := Lib.hid (hs9.sub (rows' := [⟨w6.heap.size, 69, 8, u8v (leB E)⟩, ⟨w5.heap.size, 69, 8, u8v (leB K)⟩, ⟨w1.heap.size, 24, 32, u8v fun _ => 0⟩, ⟨w.heap.size, 49, 1957, F⟩]) (.cons_cons _ (.cons_cons _ (.cons _ (.refl _)))) (by simp; omega)); clear hs9; have tok7 := Tok.mk 7)
    | (go_at_call 23; have hx : Tok 7 := (by assumption); clear hx tok7
       refine (write_any g 0 4 8 (some ⟨w5.heap.size, 0, none⟩) (seedF K E (mixN F E)) (leB K) _ HD9.out (Rd.of_row (HS9.out.row 1 rfl) (by show 4 ≤ 8; omega) (HS9.out.lt 1 rfl)) (fun _ ad e => by injection e with e; subst e; show w5.heap.size ≠ g; omega) (leB_lt K) (seedF_lt (mixN_lt F E)) (by omega) (by omega) (HP.out.below (HS9.out.out (by simp; omega))) ⟨by omega, by omega⟩).mono ?_
       rintro e w10 ⟨rfl, hd10, hg10⟩; have HS10 := Lib.hid (HS9.out.other hg10 (by omega) (by simp; omega)); have HD10 := Lib.hid hd10; clear hd10 hg10; have tok8 := Tok.mk 8)
    | (go_at_call 23; have hx : Tok 8 := (by assumption); clear hx tok8
       refine (write_any g 4 8 8 (some ⟨w6.heap.size, 0, none⟩) _ (leB E) _ HD10.out (Rd.of_row (HS10.out.row 0 rfl) (Nat.le_refl _) (HS10.out.lt 0 rfl)) (fun _ ad e => by injection e with e; subst e; show w6.heap.size ≠ g; omega) (leB_lt E) (catN_lt (seedF_lt (mixN_lt F E)) (leB_lt K)) (by omega) (by omega) (HP.out.below (HS10.out.out (by simp; omega))) ⟨by omega, by omega⟩).mono ?_
       rintro e w11 ⟨rfl, hd11, hg11⟩; have HS11 := Lib.hid (HS10.out.other hg11 (by omega) (by simp; omega)); have HD11 := Lib.hid hd11; clear hd11 hg11; have tok9 := Tok.mk 9)
    | (have hx : Tok 9 := (by assumption); refine wpList_as rfl 27 rfl (.int .u64 (((E + 6) % 8 : Nat) : Int)) ?_ ?_; (· exact wrap_idx (P := Tryd.prog) E w11 rfl rfl); clear hx tok9; generalize hI : (E + 6) % 8 = I at *; have HI := Lib.hid hI; have hI8 := HM.out; clear hI; have tok10 := Tok.mk 10)
    | (go_at_call 23; have hx : Tok 10 := (by assumption); clear hx tok10
       refine (write_any g 12 32 32 (some ⟨w.heap.size, 723 + I * 32, none⟩) _ (mixN F E) _ HD11.out (fun _ => ⟨_, rfl, HS11.out.lt 3 rfl, fun q hq => by rw [add_litO, ← HI.out, ← mix_eq HSc.out E q hq, HI.out]; exact HS11.out.cell 3 (723 + I * 32 + q) rfl (by omega)⟩) (fun _ ad e => by injection e with e; subst e; show w.heap.size ≠ g; omega) (mixN_lt F E) (catN_lt (catN_lt (seedF_lt (mixN_lt F E)) (leB_lt K)) (leB_lt E)) (by omega) (by omega) (HP.out.below (HS11.out.out (by simp; omega))) ⟨by omega, by omega⟩).mono ?_
       rintro e w12 ⟨rfl, hd12, hg12⟩; have HS12 := Lib.hid (HS11.out.other hg12 (by omega) (by simp; omega)); have HD12 := Lib.hid (hd12.congr (m' := seedF K E (mixN F E)) (seed_cat K E _ _)); clear hd12 hg12; have tok11 := Tok.mk 11)
    | (go_at_call 24; refine (sumd_any g 44 (seedF K E (mixN F E)) _ HD12.out (seedF_lt (mixN_lt F E)) (HP.out.below (HS12.out.out (by simp; omega)))).mono ?_; rintro e w13 ⟨rfl, hb13⟩; have HS13 := Lib.hid (HS12.out.below hb13); clear hb13)
    | (refine wpList_storeH rfl 24 (.tmp 6) (.tmp 33) rfl HS13.out 2 rfl (u8v (shaB (seedF K E (mixN F E)) 44)) rfl rfl (by kernel_rfl) (fun _ _ => rfl) ?_; intro w14 hs14; have HS14 := Lib.hid hs14; clear hs14))
  exact ret_rowIs rfl (HS14.out.row 2 rfl) _ rfl Tryd.underlying24 rfl (by kernel_rfl) rfl ⟨rfl, HS14.out.out (by simp; omega)⟩
end Go.Proofs.YtjphchcjneofhaaDoor
