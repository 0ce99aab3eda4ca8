/- Seeds, by the reference. (Printed by a program of mine.) -/
import Derived.Test.YtjphchcjneofhaaDoorLookSeed
import Derived.Test.YtjphchcjneofhaaDoorShaRef2
namespace Go.Proofs.YtjphchcjneofhaaDoor
open Go.RowKit
namespace SeedRef
theorem u8_info : (Tryd.prog.info? 5).map (fun i => (i.zero, i.size, i.bytes)) = some (some (.int .u8 0), 1, 1) := by kernel_rfl
theorem cat_Fn (k : Nat) (x y : Nat → Nat) (n : Nat) : ∀ i, i < n → catF k (u8v x) (u8v y) i = u8v (catN k x y) i := fun i _ => by
  simp only [catF, u8v, catN]; split <;> rfl
end SeedRef
theorem wrap_idx2 {P : Program} (E : Nat) (w : World) {o : Oper} {a : Act} {x : Operand} {t : TypeId} (ho : o.op = .binOp .rem t x (.const (.int .u64 8)) t) (hx : a.eval x = .int .u64 ((E : Int) % 8 + 8 - 1 - 1)) : (execOp a.eval o).run P w = .ok (.value (.int .u64 (((E + 6) % 8 : Nat) : Int))) w := by
  unfold execOp
  rw [ho]
  simp only [hx]
  simp [Act.eval, go_sem]
  rw [Int.tmod_eq_emod_of_nonneg (by omega)]
  omega
open SeedRef in
set_option maxHeartbeats 4000000 in
theorem seed_ref (F : Nat → Value) (hF : Sc F 49) (E : Nat) (k : Int) (K : Nat) (hk : k % 4294967296 = (K : Int)) (w : World) (hp : RefPkg w) :
    Calls Tryd.prog 11 #[.agg (arr 1957 F), .int .u64 (E : Int), .int .i64 k] w fun r w' => r = .returned (rootV (shaB (seedF K E (mixN F E)) 44)) ∧ Below w.heap.size w w' := by
  have HP := Lib.hid hp
  have HSc := Lib.hid hF
  have HK := Lib.hid hk
  have HM := Lib.hid (show ((E + 6) % 8 : Nat) < 8 from Nat.mod_lt _ (by omega))
  have hlt := hp.lt
  clear hp hF hk
  have tok1 := Tok.mk 1
  go_enter Tryd.func11, Tryd.ntmps11
  go_wp2_with (first
    | (refine wpList_box rfl _ _ rfl 1957 F rfl ?_; intro w1 hr1 hb1; have HB0 := Lib.hid (((HS.nil w).below hb1).add hr1 (Nat.le_refl _) (by simp)); have hsz : w.heap.size ≤ w1.heap.size := hb1.size; clear hr1 hb1)
    | (have hx : Tok 1 := (by assumption); clear hx; refine wpList_allocH rfl 24 rfl HB0.out (Array.replicate 32 (.int .u8 0)) (by kernel_rfl) 32 (u8v fun _ => 0) (by rfl) (zero_at 32 (.int .u8 0)) ?_; intro w2 hs2'; have hsz2 : w1.heap.size < w2.heap.size := hs2'.lt 0 rfl; have HS2 := Lib.hid hs2'; clear hs2')
    | (go_at_call 25; have hx : Tok 1 := (by assumption); clear hx tok1; rw [HK.out]; refine (bytes_ref K _).mono ?_; rintro e w3 ⟨rfl, hb3⟩; have hsz3 := hb3.size; have HS3 := Lib.hid (HS2.out.below hb3); clear hb3; have tok2 := Tok.mk 2)
    | (have hx : Tok 2 := (by assumption); refine wpList_allocH rfl 69 rfl HS3.out (Array.replicate 8 (.int .u8 0)) (by kernel_rfl) 8 (u8v fun _ => 0) (by rfl) (zero_at 8 (.int .u8 0)) ?_; clear hx tok2; intro w4 hs; have HAa := Lib.hid hs; clear hs; have tok3 := Tok.mk 3)
    | (have hx : Tok 3 := (by assumption); refine wpList_storeH rfl 69 (.tmp 7) (.tmp 13) rfl HAa.out 0 rfl (u8v (leB K)) rfl rfl (by kernel_rfl) (fun _ _ => rfl) ?_; clear hx tok3; intro w4s hs; have HA := Lib.hid hs; clear hs HAa; have tok4 := Tok.mk 4)
    | (go_at_call 25; have hx : Tok 4 := (by assumption); clear hx tok4; refine (bytes_ref E _).mono ?_; rintro e w5 ⟨rfl, hb5⟩; have HS5 := Lib.hid (HA.out.below hb5); have hsz5 : w3.heap.size < w5.heap.size := HS5.out.lt 0 rfl; clear hb5; have tok5 := Tok.mk 5)
    | (have hx : Tok 5 := (by assumption); refine wpList_allocH rfl 69 rfl HS5.out (Array.replicate 8 (.int .u8 0)) (by kernel_rfl) 8 (u8v fun _ => 0) (by rfl) (zero_at 8 (.int .u8 0)) ?_; clear hx tok5; intro w6 hs; have HBa := Lib.hid hs; clear hs; have tok6 := Tok.mk 6)
    | (have hx : Tok 6 := (by assumption); refine wpList_storeH rfl 69 (.tmp 8) (.tmp 15) rfl HBa.out 0 rfl (u8v (leB E)) rfl rfl (by kernel_rfl) (fun _ _ => rfl) ?_; clear hx tok6; intro w6s hs; have HB := Lib.hid hs; clear hs HBa; have tok7 := Tok.mk 7)
    | (have hx : Tok 7 := (by assumption); refine wpList_as rfl 21 rfl (.int .u64 (((E + 6) % 8 : Nat) : Int)) ?_ ?_; (· exact wrap_idx2 (P := Tryd.prog) E w6s rfl rfl); clear hx tok7; generalize hI : (E + 6) % 8 = I at *; have HI := Lib.hid hI; have hI8 := HM.out; clear hI; have tok8 := Tok.mk 8)
    | (have hx : Tok 8 := (by assumption); refine wpList_load_rd rfl 24 _ rfl 32 _ Tryd.underlying24 rfl (by kernel_rfl) ⟨w.heap.size, 723 + I * 32, none⟩ rfl (u8v (mixN F E)) (fun q hq => by rw [add_litO, ← mix_eq HSc.out E q hq, HI.out]; exact HB.out.cell 3 (723 + I * 32 + q) rfl (by omega)) ?_; clear hx tok8; have tok9 := Tok.mk 9)
    | (have hx : Tok 9 := (by assumption); refine wpList_allocH rfl 24 rfl HB.out (Array.replicate 32 (.int .u8 0)) (by kernel_rfl) 32 (u8v fun _ => 0) (by rfl) (zero_at 32 (.int .u8 0)) ?_; clear hx tok9; intro w9 hs; have HCa := Lib.hid hs; clear hs; have tok10 := Tok.mk 10)
    | (have hx : Tok 10 := (by assumption); refine wpList_storeH rfl 24 (.tmp 9) (.tmp 24) rfl HCa.out 0 rfl (u8v (mixN F E)) rfl rfl (by kernel_rfl) (fun _ _ => rfl) ?_; clear hx tok10; intro w9s hs; have HC := Lib.hid hs; clear hs HCa; have tok11 := Tok.mk 11))
  obtain ⟨b7, hb7⟩ : ∃ b, b = w3.heap.size := ⟨_, rfl⟩
  obtain ⟨b8, hb8⟩ : ∃ b, b = w5.heap.size := ⟨_, rfl⟩
  obtain ⟨b9, hb9⟩ : ∃ b, b = w6s.heap.size := ⟨_, rfl⟩
  have hs : HS w w9s [⟨w6s.heap.size, 24, 32, u8v (mixN F E)⟩, ⟨w5.heap.size, 69, 8, u8v (leB E)⟩, ⟨w3.heap.size, 69, 8, u8v (leB K)⟩, ⟨w1.heap.size, 24, 32, u8v fun _ => 0⟩, ⟨w.heap.size, 49, 1957, F⟩] := HC.out
  rw [← hb7, ← hb8, ← hb9] at hs ⊢
  have h56 : w5.heap.size < w6s.heap.size := HB.out.lt 0 rfl
  have hw7 : w.heap.size ≤ b7 := by omega
  have hw8 : w.heap.size ≤ b8 := by omega
  have hw9 : w.heap.size ≤ b9 := by omega
  have h79 : b7 < b9 := by omega
  clear HA HB HC HB0 HS2 HS3 HS5 HSc hb7 hb8 hb9 hsz3 hsz5 h56
  obtain ⟨wr, hwr⟩ : ∃ wr, wr = w9s := ⟨_, rfl⟩
  rw [← hwr] at hs ⊢
  have R9 := Lib.hid (hs.row 0 rfl)
  have R8 := Lib.hid (hs.row 1 rfl)
  have R7 := Lib.hid (hs.row 2 rfl)
  have HW := Lib.hid hs
  clear hs hwr
  refine wp_region_own (l := [_, _, _, _, _, _, _]) (tl := [_, _]) (B := wr.heap.size) (w0 := wr) [OF.own0 wr.heap.size 5, OF.is (.slice (some ⟨b7, 0, none⟩) (4) (8)), OF.own wr.heap.size 5 4 (u8v (leB K)), OF.is (.slice (some ⟨b8, 0, none⟩) (8) (8)), OF.own wr.heap.size 5 12 (u8v (catN 4 (leB K) (leB E))), OF.is (.slice (some ⟨b9, 0, none⟩) (32) (32)), OF.own wr.heap.size 5 44 (u8v (seedF K E (mixN F E)))] [none, none, some 25, none, some 27, none, some 29] [true, false, true, false, true, false, false] (by kernel_rfl) (by kernel_rfl) rfl (Nat.le_refl _) (Below.refl _ _) ⟨?_, ?_, ?_, ?_, ?_, ?_, ?_, trivial⟩ ?_
  · exact opObO_bs0 rfl rfl run_bs0_u8 _ (Nat.le_refl _)
  · exact opObO_is (opOb_slc rfl rfl (OpK.tmp rfl) (OpKo.no) (OpKo.const) (fun w => cut_arr Tryd.underlying69 1 (by kernel_rfl) none (some _) (0) (4) (.inl ⟨rfl, rfl⟩) (.inr rfl) (by omega) (by omega) (by omega) (by omega) (by omega) (by omega)))
  · exact opObO_app0 (s := 25) wr.heap.size u8_info Tryd.underlying39 rfl rfl rfl (by rfl) (OpK.tmp rfl) (fun w' hb => ((Rd.of_row (row_below (B := wr.heap.size) R7.out hb R7.out.lt) (Nat.le_refl _) (Nat.lt_succ_self _)) : Rd w' _ _ 8 _).short (by omega)) (fun _ _ => rfl) (by omega) (Nat.le_refl _)
  · exact opObO_is (opOb_slc rfl rfl (OpK.tmp rfl) (OpKo.no) (OpKo.no) (fun w => cut_arr Tryd.underlying69 1 (by kernel_rfl) none none (0) (8) (.inl ⟨rfl, rfl⟩) (.inl ⟨rfl, rfl⟩) (by omega) (by omega) (by omega) (by omega) (by omega) (by omega)))
  · exact opObO_app (s := 27) wr.heap.size u8_info Tryd.underlying39 rfl rfl rfl (by rfl) (Nat.le_refl _) (OpK.tmp rfl) (fun w' hb => Rd.of_row (row_below (B := wr.heap.size) R8.out hb R8.out.lt) (Nat.le_refl _) (Nat.lt_succ_self _)) (fun _ _ => rfl) 12 (u8v (catN 4 (leB K) (leB E))) rfl (cat_Fn 4 (leB K) (leB E) 12) (by omega) (Nat.le_refl _)
  · exact opObO_is (opOb_slc rfl rfl (OpK.tmp rfl) (OpKo.no) (OpKo.no) (fun w => cut_arr Tryd.underlying24 1 (by kernel_rfl) none none (0) (32) (.inl ⟨rfl, rfl⟩) (.inl ⟨rfl, rfl⟩) (by omega) (by omega) (by omega) (by omega) (by omega) (by omega)))
  · exact opObO_app (s := 29) wr.heap.size u8_info Tryd.underlying39 rfl rfl rfl (by rfl) (Nat.le_refl _) (OpK.tmp rfl) (fun w' hb => Rd.of_row (row_below (B := wr.heap.size) R9.out hb R9.out.lt) (Nat.le_refl _) (Nat.lt_succ_self _)) (fun _ _ => rfl) 44 (u8v (seedF K E (mixN F E))) rfl (cat_Fn 12 (catN 4 (leB K) (leB E)) (mixN F E) 44) (by omega) (Nat.le_refl _)
  · intro w' hb
    simp only [finO, OF.is, OF.own, forall_eq]
    rintro _ _ _ _ ⟨A31, c31, rfl, ho31⟩
    simp only [Act.put, List.setIfInBounds_toArray, List.set_cons_succ, List.set_cons_zero]
    have hb4 := hb
    have hs4 := HW.out.below hb4
    clear hb
    refine wp_fn ent_refSum #[.slice A31 44 c31] rfl rfl ?_
    refine (refSum_any 44 c31 A31 (seedF K E (mixN F E)) w' ho31.rd (seedF_lt (mixN_lt F E)) (by omega) (HP.out.below (hs4.out (by simp; omega)))).mono ?_
    rintro e w5' ⟨rfl, hb5⟩
    have hs5 := hs4.below hb5
    refine ⟨_, rfl, ?_⟩
    refine wp_sto_arr rfl (hs5.row 3 rfl) _ rfl rfl (size_arr _ _) (by kernel_rfl) (fun i hi => ⟨_, arr_at _ _ i hi, rfl⟩) ?_
    have hend := hs5.setRow 3 rfl (arr 32 (u8v (shaB (seedF K E (mixN F E)) 44))) (size_arr _ _) _ (fun i hi => arr_at _ _ i hi)
    have HE := Lib.hid hend
    clear hs4 hs5 hend hb4 hb5 ho31
    simp only [seqWp]
    go_wp2_with fail
    exact ret_rowIs rfl (HE.out.row 3 rfl) _ rfl Tryd.underlying24 rfl (by kernel_rfl) rfl ⟨rfl, HE.out.out (by simp; omega)⟩
end Go.Proofs.YtjphchcjneofhaaDoor
