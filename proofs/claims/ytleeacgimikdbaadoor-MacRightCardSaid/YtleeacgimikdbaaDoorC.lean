/- Contracts of the small functions: turned, RotateLeft32. -/
import Derived.Test.YtleeacgimikdbaaDoorB
namespace Go.Proofs.YtleeacgimikdbaaDoor
open Go.RowKit
attribute [local go_sem] wval_add wval_xor wval_or wval_and wval_not wval_shr wval_shl
theorem rot_bits (n : Int) (h0 : 1 ≤ n) (h1 : n ≤ 31) : bits .and .u64 (IntKind.u64.wrap (-n)) 31 = 32 - n := by
  have h : n = 1 ∨ n = 2 ∨ n = 3 ∨ n = 4 ∨ n = 5 ∨ n = 6 ∨ n = 7 ∨ n = 8 ∨ n = 9 ∨ n = 10 ∨ n = 11 ∨ n = 12 ∨ n = 13 ∨ n = 14 ∨ n = 15 ∨ n = 16 ∨ n = 17 ∨ n = 18 ∨ n = 19 ∨ n = 20 ∨ n = 21 ∨ n = 22 ∨ n = 23 ∨ n = 24 ∨ n = 25 ∨ n = 26 ∨ n = 27 ∨ n = 28 ∨ n = 29 ∨ n = 30 ∨ n = 31 := by omega
  rcases h with rfl | rfl | rfl | rfl | rfl | rfl | rfl | rfl | rfl | rfl | rfl | rfl | rfl | rfl | rfl | rfl | rfl | rfl | rfl | rfl | rfl | rfl | rfl | rfl | rfl | rfl | rfl | rfl | rfl | rfl | rfl <;> rfl
set_option maxHeartbeats 400000 in
theorem rotl_any (x : W32) (n : Int) (w : World) (h0 : 1 ≤ n) (h1 : n ≤ 31) :
    Calls Tryd.prog 42 #[wval x, .int .i64 (-n)] w fun e w' => e = .returned (wval (rotr x n.toNat)) ∧ w' = w := by
  have hb := rot_bits n h0 h1
  have e1 : (32 - n).toNat = 32 - n.toNat := by omega
  have e2 : (32 - (32 - n)).toNat = n.toNat := by omega
  have e3 : IntKind.u64.wrap (32 - (32 - n)) = n := by simp [IntKind.wrap, IntKind.bits, IntKind.signed]; omega
  have q1 : n ≤ 32 := by omega
  have q2 : 0 ≤ n := by omega
  have q3 : (0 : Int) ≤ 32 - n := by omega
  have q4 : (32 : Int) - n ≤ 32 := by omega
  go_enter Tryd.func42, Tryd.ntmps42
  go_wp2
  go_ret
  exact ⟨rfl, rfl⟩
set_option maxHeartbeats 400000 in
theorem turned_any (x : W32) (n : Int) (w : World) (h0 : 1 ≤ n) (h1 : n ≤ 31) :
    Calls Tryd.prog 38 #[wval x, .int .i64 n] w fun e w' => e = .returned (wval (rotr x n.toNat)) ∧ w' = w := by
  go_enter Tryd.func38, Tryd.ntmps38
  go_wp2_with (go_at_call 42; refine (rotl_any _ _ _ h0 h1).mono ?_; rintro e w' ⟨rfl, rfl⟩)
  go_ret
  exact ⟨rfl, rfl⟩
end Go.Proofs.YtleeacgimikdbaaDoor
