/- What slice expressions give. -/
import Derived.Test.YtpcmfbdlfjlobaaGO
namespace Go.Proofs.Ytpcmfbdlfjlobaa
open Go.RowKit
section
variable {P : Program} {t e : TypeId} {z : Value} {size bytes : Nat}
theorem at_slice (E : Elem P t e z size bytes) (v : Value) (lo hi mx : Option Value) (w : World) : (Instr.sliceAt t v lo hi mx).run P w = (Instr.slice t v lo hi mx).run P w := by
  simp [Instr.sliceAt, run_underlying E.ht]
theorem map_add_zero (A : Option Addr) : A.map (fun x : Addr => x.add 0) = A := by cases A <;> rfl
theorem slice_to (E : Elem P t e z size bytes) (A : Option Addr) (n c a : Nat) (h : a ≤ c) (w : World) : (Instr.slice t (.slice A n c) none (some (.int .i64 (a : Int))) none).run P w = .ok (.slice A a c) w := by
  obtain ⟨i, hi, _, hs, _⟩ := E.hi
  simp [Instr.slice, run_underlying E.ht, Instr.sliceBounds, Instr.sliceBound, asIntOf, sizeOf, typeInfo, hi, map_add_zero]
  intro; omega
theorem slice_kk (E : Elem P t e z size bytes) (A : Option Addr) (n c a : Nat) (h : a ≤ c) (w : World) : (Instr.slice t (.slice A n c) none (some (.int .i64 (a : Int))) (some (.int .i64 (a : Int)))).run P w = .ok (.slice A a a) w := by
  obtain ⟨i, hi, _, hs, _⟩ := E.hi
  have h1 : (a : Int) ≤ (c : Int) := by omega
  simp [Instr.slice, run_underlying E.ht, Instr.sliceBounds, Instr.sliceBound, asIntOf, sizeOf, typeInfo, hi, map_add_zero, h]
theorem slice_from (E : Elem P t e z size bytes) (A : Option Addr) (n c a : Nat) (h : a ≤ n) (w : World) : (Instr.slice t (.slice A n c) (some (.int .i64 (a : Int))) none none).run P w = .ok (.slice (if c = a then A else A.map (fun x => x.add (a * size))) (n - a) (c - a)) w := by
  obtain ⟨i, hi, _, hs, _⟩ := E.hi
  simp [Instr.slice, run_underlying E.ht, Instr.sliceBounds, Instr.sliceBound, asIntOf, sizeOf, typeInfo, hi, hs]
  intro; omega
end
theorem Rd.from_ {w : World} {A : Option Addr} {xs : List Value} {n size : Nat} (h : Rd w A xs) (hl : xs.length = n * size) {a c : Nat} (hc : n ≤ c) : Rd w (if c = a then A else A.map (fun x => x.add (a * size))) (xs.drop (a * size)) := by
  refine h.drop (fun hlt b off hA => ?_)
  have : a < n := by
    rcases Nat.lt_or_ge a n with h | h
    · exact h
    · have := Nat.mul_le_mul_right size h
      omega
  rw [if_neg (by omega), hA]
  simp [Addr.add_lit]
end Go.Proofs.Ytpcmfbdlfjlobaa
