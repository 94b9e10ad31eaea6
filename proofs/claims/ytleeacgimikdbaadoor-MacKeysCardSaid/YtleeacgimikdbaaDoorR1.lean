/- The reference's small functions: moved, word, turned, words, digit. -/
import Derived.Test.YtleeacgimikdbaaDoorH
namespace Go.Proofs.YtleeacgimikdbaaDoor
open Go.RowKit
/-- A word as a number, kept closed. -/
def wn (x : W32) : Int := (x.toNat : Int)
theorem wn_bd (x : W32) : 0 ≤ wn x ∧ wn x < 4294967296 := by
  have := x.isLt
  unfold wn
  omega
theorem wn_ofInt (x : W32) : BitVec.ofInt 32 (wn x) = x := ofInt_toNat x
theorem wn_of (n : Int) : wn (BitVec.ofInt 32 n) = n % 4294967296 := by
  unfold wn
  rw [BitVec.toNat_ofInt]
  omega
theorem wraps_i64 (n : Int) (h₀ : 0 ≤ n) (h₁ : n < 2 ^ 63) : IntKind.i64.wrap n = n := IntWalk.i64_in _ (by omega)
theorem bits_word (n : Int) (h0 : 0 ≤ n) (h1 : n < 9223372036854775808) : bits .and .i64 n 4294967295 = wn (BitVec.ofInt 32 n) := by
  rw [wn_of]
  exact bits_mask .i64 63 (by decide) wraps_i64 32 (by decide) n h0 (by omega)
theorem ofInt_wn (x : W32) : (BitVec.ofInt 64 (wn x)).toNat = x.toNat := by
  have := x.isLt
  unfold wn
  rw [BitVec.ofInt_natCast, BitVec.toNat_ofNat]
  exact Nat.mod_eq_of_lt (by omega)
theorem wn_xor (a b : W32) : bits .xor .i64 (wn a) (wn b) = wn (a ^^^ b) := by
  show IntKind.i64.wrap (((BitVec.ofInt 64 (wn a) ^^^ BitVec.ofInt 64 (wn b)).toNat : Nat) : Int) = _
  have h : (a ^^^ b).toNat < 4294967296 := (a ^^^ b).isLt
  rw [BitVec.toNat_xor, ofInt_wn, ofInt_wn, ← BitVec.toNat_xor]
  exact IntWalk.i64_in _ (by omega)
theorem wn_and (a b : W32) : bits .and .i64 (wn a) (wn b) = wn (a &&& b) := by
  show IntKind.i64.wrap (((BitVec.ofInt 64 (wn a) &&& BitVec.ofInt 64 (wn b)).toNat : Nat) : Int) = _
  have h : (a &&& b).toNat < 4294967296 := (a &&& b).isLt
  rw [BitVec.toNat_and, ofInt_wn, ofInt_wn, ← BitVec.toNat_and]
  exact IntWalk.i64_in _ (by omega)
theorem wn_not (a : W32) : 4294967295 - wn a = wn (~~~a) := by
  unfold wn
  have := a.isLt
  rw [BitVec.toNat_not]
  omega
theorem wn_shr (a : W32) (n : Nat) : wn a / 2 ^ n = wn (a >>> n) := by
  unfold wn
  rw [BitVec.toNat_ushiftRight, Nat.shiftRight_eq_div_pow]
  norm_cast
theorem wn_rot (a : W32) (n : Nat) (h0 : 1 ≤ n) (h1 : n ≤ 31) : BitVec.ofInt 32 (wn (a >>> n) + wn a * 2 ^ (32 - n)) = rotr a n := by
  have e : BitVec.ofInt 32 (wn a * 2 ^ (32 - n)) = a <<< (32 - n) := by
    apply BitVec.eq_of_toNat_eq
    rw [BitVec.toNat_shiftLeft, BitVec.toNat_ofInt, Nat.shiftLeft_eq]
    unfold wn
    norm_cast
  rw [BitVec.ofInt_add, wn_ofInt, e]
  unfold rotr
  rw [BitVec.add_comm]
  apply BitVec.add_eq_or_of_and_eq_zero
  apply BitVec.eq_of_getLsbD_eq
  intro i hi
  simp only [BitVec.getLsbD_and, BitVec.getLsbD_shiftLeft, BitVec.getLsbD_ushiftRight, BitVec.getLsbD_zero, Bool.and_eq_false_imp, Bool.and_eq_true, decide_eq_true_eq, Bool.not_eq_true', decide_eq_false_iff_not]
  intro h
  exact BitVec.getLsbD_of_ge _ _ (by omega)
set_option maxHeartbeats 400000 in
theorem moved_any (x : W32) (n : Int) (w : World) (h0 : 0 ≤ n) (h1 : n ≤ 31) :
    Calls Tryd.prog 33 #[.int .i64 (wn x), .int .i64 n] w fun e w' => e = .returned (.int .i64 (wn (x >>> n.toNat))) ∧ w' = w := by
  have q1 : n ≤ 64 := by omega
  have hs := wn_shr x n.toNat
  go_enter Tryd.func33, Tryd.ntmps33
  go_wp2
  go_ret
  exact ⟨rfl, rfl⟩
set_option maxHeartbeats 400000 in
theorem word_any (n : Int) (w : World) (h0 : 0 ≤ n) (h1 : n < 9223372036854775808) :
    Calls Tryd.prog 40 #[.int .i64 n] w fun e w' => e = .returned (.int .i64 (wn (BitVec.ofInt 32 n))) ∧ w' = w := by
  have hb := bits_word n h0 h1
  clear h0 h1
  go_enter Tryd.func40, Tryd.ntmps40
  go_wp2
  go_ret
  exact ⟨rfl, rfl⟩
theorem rot_bd (x : W32) (n : Nat) (h1 : 1 ≤ n) (h2 : n ≤ 31) : 0 ≤ wn x * 2 ^ (32 - n) ∧ 0 ≤ wn (x >>> n) ∧ wn (x >>> n) + wn x * 2 ^ (32 - n) < 9223372036854775808 := by
  have hx := x.isLt
  have hm : (2 : Nat) ^ (32 - n) ≤ 2 ^ 31 := Nat.pow_le_pow_right (by decide) (by omega)
  have hp : 0 < (2 : Nat) ^ (32 - n) := Nat.two_pow_pos _
  have hq : x.toNat / 2 ^ n < 2 ^ (32 - n) := by
    apply Nat.div_lt_of_lt_mul
    rw [← Nat.pow_add, show n + (32 - n) = 32 by omega]
    exact hx
  have e1 : wn x * 2 ^ (32 - n) = ((x.toNat * 2 ^ (32 - n) : Nat) : Int) := by unfold wn; push_cast; rfl
  have e2 : wn (x >>> n) = ((x.toNat / 2 ^ n : Nat) : Int) := by unfold wn; rw [BitVec.toNat_ushiftRight, Nat.shiftRight_eq_div_pow]
  rw [e1, e2]
  generalize hP : (2 : Nat) ^ (32 - n) = p at *
  generalize x.toNat / 2 ^ n = q at *
  have h3 : x.toNat * p ≤ 4294967295 * p := Nat.mul_le_mul_right _ (by omega)
  omega
set_option maxHeartbeats 400000 in
theorem rturned_any (x : W32) (n : Int) (w : World) (h0 : 1 ≤ n) (h1 : n ≤ 31) :
    Calls Tryd.prog 39 #[.int .i64 (wn x), .int .i64 n] w fun e w' => e = .returned (.int .i64 (wn (rotr x n.toNat))) ∧ ∃ k, w' = w.drewN k := by
  have hs := rot_bd x n.toNat (by omega) (by omega)
  have k1 : IntKind.i64.wrap (32 - n) = 32 - n := IntWalk.i64_in _ (by omega)
  have k2 : IntKind.i64.wrap (wn x * 2 ^ (32 - n.toNat)) = wn x * 2 ^ (32 - n.toNat) := IntWalk.i64_in _ (by omega)
  have k3 : IntKind.i64.wrap (wn (x >>> n.toNat) + wn x * 2 ^ (32 - n.toNat)) = wn (x >>> n.toNat) + wn x * 2 ^ (32 - n.toNat) := IntWalk.i64_in _ (by omega)
  have k4 : (32 - n).toNat = 32 - n.toNat := by omega
  have k5 : n ≤ 32 := by omega
  have k6 : (0 : Int) ≤ 32 - n := by omega
  have k7 : (32 : Int) - n ≤ 64 := by omega
  have k8 := wn_rot x n.toNat (by omega) (by omega)
  have hb : (0 : Int) ≤ wn (x >>> n.toNat) + wn x * 2 ^ (32 - n.toNat) ∧ wn (x >>> n.toNat) + wn x * 2 ^ (32 - n.toNat) < 9223372036854775808 := by omega
  have HB := Lib.hid hb
  have H0 := Lib.hid (show (0 : Int) ≤ n by omega)
  have H1 := Lib.hid h1
  clear hs hb h1
  go_enter Tryd.func39, Tryd.ntmps39
  go_wp2_with fail
  go_quiet ((first | (go_at_call 33; exact Calls.quiet_of_same (moved_any x n _ H0.out H1.out)) | (go_at_call 40; exact Calls.quiet_of_same (word_any _ _ HB.out.1 HB.out.2))))
  rename_i nq
  go_wp2
  go_ret
  exact ⟨by rw [k8]; rfl, nq, rfl⟩
set_option maxHeartbeats 400000 in
theorem digit_any (n : Nat) (w : World) (h : n < 16) :
    Calls Tryd.prog 34 #[.int .i64 (n : Int)] w fun e w' => e = .returned (.int .u8 ((dig n).toNat : Int)) ∧ w' = w := by
  have hd : ((dig n).toNat : Int) = if n < 10 then 48 + (n : Int) else 87 + (n : Int) := by
    unfold dig
    split <;> (rw [UInt8.toNat_ofNat']; omega)
  by_cases h10 : n < 10
  · rw [if_pos h10] at hd
    have HD := Lib.hid hd
    clear hd
    go_enter Tryd.func34, Tryd.ntmps34
    go_wp2
    go_ret
    exact ⟨by rw [HD.out]; rfl, rfl⟩
  · rw [if_neg h10] at hd
    have HD := Lib.hid hd
    clear hd
    go_enter Tryd.func34, Tryd.ntmps34
    go_wp2
    go_ret
    exact ⟨by rw [HD.out, show (87 : Int) + n = 97 + n - 10 by omega]; rfl, rfl⟩
/-- The same, at whatever number. -/
theorem digit_int (n : Int) (w : World) (h0 : 0 ≤ n) (h : n < 16) :
    Calls Tryd.prog 34 #[.int .i64 n] w fun e w' => e = .returned (.int .u8 ((dig n.toNat).toNat : Int)) ∧ w' = w := by
  obtain ⟨m, rfl⟩ := Int.eq_ofNat_of_zero_le h0
  exact digit_any m w (by omega)
end Go.Proofs.YtleeacgimikdbaaDoor
