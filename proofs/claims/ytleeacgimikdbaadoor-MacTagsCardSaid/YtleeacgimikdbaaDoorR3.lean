/- The reference's block: its words. -/
import Derived.Test.YtleeacgimikdbaaDoorR2
import Derived.Test.YtleeacgimikdbaaDoorK3
namespace Go.Proofs.YtleeacgimikdbaaDoor
open Go.RowKit
attribute [local go_sem ↓] Go.wp_at_zero Go.wp_at_succ
def wcell (x : W32) : Value := .int .i64 (wn x)
def wcells (l : List W32) : List Value := l.map wcell
theorem wcells_length (l : List W32) : (wcells l).length = l.length := by simp [wcells]
theorem wcells_one (l : List W32) : ∀ u ∈ wcells l, u.oneCell' = true := by
  intro u hu
  obtain ⟨b, _, rfl⟩ := List.mem_map.1 hu
  rfl
theorem wcells_append (a b : List W32) : wcells (a ++ b) = wcells a ++ wcells b := by simp [wcells]
theorem wcells_at (l : List W32) (j : Nat) (h : j < l.length) : (wcells l)[j]? = some (.int .i64 (wn (l.getD j 0))) := by
  simp [wcells, h, wcell]
theorem intE : Elem Tryd.prog 46 3 (.int .i64 0) 1 8 := Elem.mk_ Tryd.underlying46 (by kernel_rfl) rfl (by decide)
set_option maxRecDepth 100000 in
set_option maxHeartbeats 1000000 in
theorem words_any (w : World) :
    Calls Tryd.prog 41 #[] w fun e w' => e = .returned (.slice (some ⟨w.heap.size, 0, none⟩) 64 64) ∧ Blk w' w.heap.size 3 (wcells kList) ∧ Below w.heap.size w w' := by
  go_enter Tryd.func41, Tryd.ntmps41
  go_wp2
  go_ret
  exact ⟨rfl, heap_alloc_new w _, (Below.refl _ _).alloc (Nat.le_refl _) _⟩
theorem wordAt_wn (bs : List UInt8) (t : Nat) : 16777216 * ((bs.getD (4 * t) 0).toNat : Int) + 65536 * ((bs.getD (4 * t + 1) 0).toNat : Int) + 256 * ((bs.getD (4 * t + 2) 0).toNat : Int) + ((bs.getD (4 * t + 3) 0).toNat : Int) = wn (wordAt bs t) := by
  unfold wordAt byteAt wn
  generalize bs.getD (4 * t) 0 = a
  generalize bs.getD (4 * t + 1) 0 = b
  generalize bs.getD (4 * t + 2) 0 = c
  generalize bs.getD (4 * t + 3) 0 = d
  have ha := u8_lt a
  have hb := u8_lt b
  have hc := u8_lt c
  have hd := u8_lt d
  have h1 : ∀ (x : UInt8) (n : Nat), n ≤ 24 → (BitVec.ofNat 32 x.toNat <<< n).toNat = x.toNat <<< n := by
    intro x n hn
    have hx := u8_lt x
    rw [BitVec.toNat_shiftLeft, BitVec.toNat_ofNat, Nat.mod_eq_of_lt (show x.toNat < 2 ^ 32 by omega)]
    apply Nat.mod_eq_of_lt
    rw [Nat.shiftLeft_eq]
    have : (2 : Nat) ^ n ≤ 2 ^ 24 := Nat.pow_le_pow_right (by decide) hn
    calc x.toNat * 2 ^ n ≤ 255 * 2 ^ 24 := Nat.mul_le_mul (by omega) this
      _ < 2 ^ 32 := by decide
  rw [BitVec.toNat_or, BitVec.toNat_or, BitVec.toNat_or, h1 a 24 (by decide), h1 b 16 (by decide), h1 c 8 (by decide), BitVec.toNat_ofNat, Nat.mod_eq_of_lt (show d.toNat < 2 ^ 32 by omega)]
  have e1 : a.toNat <<< 24 ||| b.toNat <<< 16 = a.toNat <<< 24 + b.toNat <<< 16 := by
    rw [Nat.shiftLeft_eq, ← Nat.shiftLeft_eq]
    exact (Nat.shiftLeft_add_eq_or_of_lt (by rw [Nat.shiftLeft_eq]; omega) _).symm
  have e2 : (a.toNat <<< 24 + b.toNat <<< 16) ||| c.toNat <<< 8 = (a.toNat <<< 24 + b.toNat <<< 16) + c.toNat <<< 8 := by
    have : a.toNat <<< 24 + b.toNat <<< 16 = (a.toNat <<< 8 + b.toNat) <<< 16 := by simp only [Nat.shiftLeft_eq]; omega
    rw [this]
    exact (Nat.shiftLeft_add_eq_or_of_lt (by rw [Nat.shiftLeft_eq]; omega) _).symm
  have e3 : (a.toNat <<< 24 + b.toNat <<< 16 + c.toNat <<< 8) ||| d.toNat = (a.toNat <<< 24 + b.toNat <<< 16 + c.toNat <<< 8) + d.toNat := by
    have : a.toNat <<< 24 + b.toNat <<< 16 + c.toNat <<< 8 = (a.toNat <<< 16 + b.toNat <<< 8 + c.toNat) <<< 8 := by simp only [Nat.shiftLeft_eq]; omega
    rw [this]
    exact (Nat.shiftLeft_add_eq_or_of_lt (by omega) _).symm
  rw [e1, e2, e3]
  simp only [Nat.shiftLeft_eq]
  omega
end Go.Proofs.YtleeacgimikdbaaDoor
