/- rot of the reference, at each constant. (Printed by a program of mine.) -/
import Derived.Test.YtecgogeebponlaaDoorShaWalks
namespace Go.Proofs.YtecgogeebponlaaDoor
set_option maxRecDepth 40000
open Go.RowKit

set_option maxHeartbeats 400000 in
theorem rot_2 (x : W32) (w : World) : Calls Tryd.prog 52 #[wv x, .int .u64 2] w fun e w' => e = .returned (wv (rotr x 2)) ∧ w = w' := by
  have h1 := Lib.hid (show (x.toNat : Int) * (1073741824 : Int) % (4294967296 : Int) = (((x <<< 30).toNat : Nat) : Int) from u32_shl x 30)
  have h2 := Lib.hid (show (x.toNat : Int) / (4 : Int) = (((x >>> 2).toNat : Nat) : Int) from u32_shr x 2)
  have h3 := Lib.hid (u32_or (x >>> 2) (x <<< 30))
  go_enter Tryd.func52, Tryd.ntmps52
  go_wp2
  go_ret
  exact ⟨ret_int (by rw [h1.out, h2.out, h3.out]; rfl), rfl⟩

set_option maxHeartbeats 400000 in
theorem rot_6 (x : W32) (w : World) : Calls Tryd.prog 52 #[wv x, .int .u64 6] w fun e w' => e = .returned (wv (rotr x 6)) ∧ w = w' := by
  have h1 := Lib.hid (show (x.toNat : Int) * (67108864 : Int) % (4294967296 : Int) = (((x <<< 26).toNat : Nat) : Int) from u32_shl x 26)
  have h2 := Lib.hid (show (x.toNat : Int) / (64 : Int) = (((x >>> 6).toNat : Nat) : Int) from u32_shr x 6)
  have h3 := Lib.hid (u32_or (x >>> 6) (x <<< 26))
  go_enter Tryd.func52, Tryd.ntmps52
  go_wp2
  go_ret
  exact ⟨ret_int (by rw [h1.out, h2.out, h3.out]; rfl), rfl⟩

set_option maxHeartbeats 400000 in
theorem rot_7 (x : W32) (w : World) : Calls Tryd.prog 52 #[wv x, .int .u64 7] w fun e w' => e = .returned (wv (rotr x 7)) ∧ w = w' := by
  have h1 := Lib.hid (show (x.toNat : Int) * (33554432 : Int) % (4294967296 : Int) = (((x <<< 25).toNat : Nat) : Int) from u32_shl x 25)
  have h2 := Lib.hid (show (x.toNat : Int) / (128 : Int) = (((x >>> 7).toNat : Nat) : Int) from u32_shr x 7)
  have h3 := Lib.hid (u32_or (x >>> 7) (x <<< 25))
  go_enter Tryd.func52, Tryd.ntmps52
  go_wp2
  go_ret
  exact ⟨ret_int (by rw [h1.out, h2.out, h3.out]; rfl), rfl⟩

set_option maxHeartbeats 400000 in
theorem rot_11 (x : W32) (w : World) : Calls Tryd.prog 52 #[wv x, .int .u64 11] w fun e w' => e = .returned (wv (rotr x 11)) ∧ w = w' := by
  have h1 := Lib.hid (show (x.toNat : Int) * (2097152 : Int) % (4294967296 : Int) = (((x <<< 21).toNat : Nat) : Int) from u32_shl x 21)
  have h2 := Lib.hid (show (x.toNat : Int) / (2048 : Int) = (((x >>> 11).toNat : Nat) : Int) from u32_shr x 11)
  have h3 := Lib.hid (u32_or (x >>> 11) (x <<< 21))
  go_enter Tryd.func52, Tryd.ntmps52
  go_wp2
  go_ret
  exact ⟨ret_int (by rw [h1.out, h2.out, h3.out]; rfl), rfl⟩

set_option maxHeartbeats 400000 in
theorem rot_13 (x : W32) (w : World) : Calls Tryd.prog 52 #[wv x, .int .u64 13] w fun e w' => e = .returned (wv (rotr x 13)) ∧ w = w' := by
  have h1 := Lib.hid (show (x.toNat : Int) * (524288 : Int) % (4294967296 : Int) = (((x <<< 19).toNat : Nat) : Int) from u32_shl x 19)
  have h2 := Lib.hid (show (x.toNat : Int) / (8192 : Int) = (((x >>> 13).toNat : Nat) : Int) from u32_shr x 13)
  have h3 := Lib.hid (u32_or (x >>> 13) (x <<< 19))
  go_enter Tryd.func52, Tryd.ntmps52
  go_wp2
  go_ret
  exact ⟨ret_int (by rw [h1.out, h2.out, h3.out]; rfl), rfl⟩

set_option maxHeartbeats 400000 in
theorem rot_17 (x : W32) (w : World) : Calls Tryd.prog 52 #[wv x, .int .u64 17] w fun e w' => e = .returned (wv (rotr x 17)) ∧ w = w' := by
  have h1 := Lib.hid (show (x.toNat : Int) * (32768 : Int) % (4294967296 : Int) = (((x <<< 15).toNat : Nat) : Int) from u32_shl x 15)
  have h2 := Lib.hid (show (x.toNat : Int) / (131072 : Int) = (((x >>> 17).toNat : Nat) : Int) from u32_shr x 17)
  have h3 := Lib.hid (u32_or (x >>> 17) (x <<< 15))
  go_enter Tryd.func52, Tryd.ntmps52
  go_wp2
  go_ret
  exact ⟨ret_int (by rw [h1.out, h2.out, h3.out]; rfl), rfl⟩

set_option maxHeartbeats 400000 in
theorem rot_18 (x : W32) (w : World) : Calls Tryd.prog 52 #[wv x, .int .u64 18] w fun e w' => e = .returned (wv (rotr x 18)) ∧ w = w' := by
  have h1 := Lib.hid (show (x.toNat : Int) * (16384 : Int) % (4294967296 : Int) = (((x <<< 14).toNat : Nat) : Int) from u32_shl x 14)
  have h2 := Lib.hid (show (x.toNat : Int) / (262144 : Int) = (((x >>> 18).toNat : Nat) : Int) from u32_shr x 18)
  have h3 := Lib.hid (u32_or (x >>> 18) (x <<< 14))
  go_enter Tryd.func52, Tryd.ntmps52
  go_wp2
  go_ret
  exact ⟨ret_int (by rw [h1.out, h2.out, h3.out]; rfl), rfl⟩

set_option maxHeartbeats 400000 in
theorem rot_19 (x : W32) (w : World) : Calls Tryd.prog 52 #[wv x, .int .u64 19] w fun e w' => e = .returned (wv (rotr x 19)) ∧ w = w' := by
  have h1 := Lib.hid (show (x.toNat : Int) * (8192 : Int) % (4294967296 : Int) = (((x <<< 13).toNat : Nat) : Int) from u32_shl x 13)
  have h2 := Lib.hid (show (x.toNat : Int) / (524288 : Int) = (((x >>> 19).toNat : Nat) : Int) from u32_shr x 19)
  have h3 := Lib.hid (u32_or (x >>> 19) (x <<< 13))
  go_enter Tryd.func52, Tryd.ntmps52
  go_wp2
  go_ret
  exact ⟨ret_int (by rw [h1.out, h2.out, h3.out]; rfl), rfl⟩

set_option maxHeartbeats 400000 in
theorem rot_22 (x : W32) (w : World) : Calls Tryd.prog 52 #[wv x, .int .u64 22] w fun e w' => e = .returned (wv (rotr x 22)) ∧ w = w' := by
  have h1 := Lib.hid (show (x.toNat : Int) * (1024 : Int) % (4294967296 : Int) = (((x <<< 10).toNat : Nat) : Int) from u32_shl x 10)
  have h2 := Lib.hid (show (x.toNat : Int) / (4194304 : Int) = (((x >>> 22).toNat : Nat) : Int) from u32_shr x 22)
  have h3 := Lib.hid (u32_or (x >>> 22) (x <<< 10))
  go_enter Tryd.func52, Tryd.ntmps52
  go_wp2
  go_ret
  exact ⟨ret_int (by rw [h1.out, h2.out, h3.out]; rfl), rfl⟩

set_option maxHeartbeats 400000 in
theorem rot_25 (x : W32) (w : World) : Calls Tryd.prog 52 #[wv x, .int .u64 25] w fun e w' => e = .returned (wv (rotr x 25)) ∧ w = w' := by
  have h1 := Lib.hid (show (x.toNat : Int) * (128 : Int) % (4294967296 : Int) = (((x <<< 7).toNat : Nat) : Int) from u32_shl x 7)
  have h2 := Lib.hid (show (x.toNat : Int) / (33554432 : Int) = (((x >>> 25).toNat : Nat) : Int) from u32_shr x 25)
  have h3 := Lib.hid (u32_or (x >>> 25) (x <<< 7))
  go_enter Tryd.func52, Tryd.ntmps52
  go_wp2
  go_ret
  exact ⟨ret_int (by rw [h1.out, h2.out, h3.out]; rfl), rfl⟩

end Go.Proofs.YtecgogeebponlaaDoor
