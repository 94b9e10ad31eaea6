/- Small laws on words of 32 bits, as the walks meet them. -/
import Derived.Test.YtleeacgimikdbaaDoorK2
import Derived.Test.YtleeacgimikdbaaDoorS
namespace Go.Proofs.YtleeacgimikdbaaDoor
open Go.RowKit
/-- A word as a value of kind uint32. -/
def wval (x : W32) : Value := .int .u32 (x.toNat : Int)
theorem wval_eq (x : W32) : wval x = .int .u32 (x.toNat : Int) := rfl
theorem ofInt_toNat (x : W32) : BitVec.ofInt 32 (x.toNat : Int) = x := by simp
theorem wrap_wval (n : Int) : IntKind.u32.wrap n = ((BitVec.ofInt 32 n).toNat : Int) := by
  simp only [IntKind.wrap, IntKind.bits, IntKind.signed, BitVec.toNat_ofInt]
  simp only [Bool.false_and, Bool.false_eq_true, if_false]
  omega
theorem wval_of_wrap (n : Int) : Value.int .u32 (IntKind.u32.wrap n) = wval (BitVec.ofInt 32 n) := by rw [wrap_wval, wval]
section
variable {t t' : TypeId} {a b : W32}
theorem wval_add : binOp .add t (wval a) (wval b) = pure (wval (a + b)) := by
  rw [wval, wval]
  show (pure (Value.int .u32 (IntKind.u32.wrap _)) : Sem Value) = _
  rw [wval_of_wrap, BitVec.ofInt_add, ofInt_toNat, ofInt_toNat]
theorem wval_xor : binOp .xor t (wval a) (wval b) = pure (wval (a ^^^ b)) := by
  rw [wval, wval]
  show (pure (Value.int .u32 (IntKind.u32.wrap ((BitVec.ofInt 32 _ ^^^ BitVec.ofInt 32 _).toNat : Int))) : Sem Value) = _
  rw [wval_of_wrap, ofInt_toNat, ofInt_toNat, ofInt_toNat]
theorem wval_or : binOp .or t (wval a) (wval b) = pure (wval (a ||| b)) := by
  rw [wval, wval]
  show (pure (Value.int .u32 (IntKind.u32.wrap ((BitVec.ofInt 32 _ ||| BitVec.ofInt 32 _).toNat : Int))) : Sem Value) = _
  rw [wval_of_wrap, ofInt_toNat, ofInt_toNat, ofInt_toNat]
theorem wval_and : binOp .and t (wval a) (wval b) = pure (wval (a &&& b)) := by
  rw [wval, wval]
  show (pure (Value.int .u32 (IntKind.u32.wrap ((BitVec.ofInt 32 _ &&& BitVec.ofInt 32 _).toNat : Int))) : Sem Value) = _
  rw [wval_of_wrap, ofInt_toNat, ofInt_toNat, ofInt_toNat]
theorem wval_not : Op.unary .xor (wval a) = pure (wval (~~~a)) := by
  rw [wval]
  show (pure (Value.int .u32 (IntKind.u32.wrap ((BitVec.ofInt 32 4294967295 ^^^ BitVec.ofInt 32 _).toNat : Int))) : Sem Value) = _
  rw [wval_of_wrap, ofInt_toNat, ofInt_toNat]
  congr 2
theorem wval_shr (yk : IntKind) (y : Int) (h0 : 0 ≤ y) (h1 : y ≤ 32) : binOp .shr t (wval a) (.int yk y) = pure (wval (a >>> y.toNat)) := by
  obtain ⟨n, rfl⟩ := Int.eq_ofNat_of_zero_le h0
  rw [wval]
  show Op.shift .shr .u32 _ yk _ = _
  rw [shift_shr .u32 yk _ _ h0 h1, wval, BitVec.toNat_ushiftRight, Int.toNat_natCast, Nat.shiftRight_eq_div_pow]
  norm_cast
theorem wval_shl (yk : IntKind) (y : Int) (h0 : 0 ≤ y) (h1 : y ≤ 32) : binOp .shl t (wval a) (.int yk y) = pure (wval (a <<< y.toNat)) := by
  obtain ⟨n, rfl⟩ := Int.eq_ofNat_of_zero_le h0
  rw [wval]
  show Op.shift .shl .u32 _ yk _ = _
  rw [shift_shl .u32 yk _ _ h0 h1, wval_of_wrap]
  congr 2
  apply BitVec.eq_of_toNat_eq
  rw [BitVec.toNat_shiftLeft, BitVec.toNat_ofInt, Int.toNat_natCast, Nat.shiftLeft_eq]
  norm_cast
end
end Go.Proofs.YtleeacgimikdbaaDoor
