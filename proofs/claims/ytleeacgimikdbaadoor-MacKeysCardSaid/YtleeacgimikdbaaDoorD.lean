/- A block's words. -/
import Derived.Test.YtleeacgimikdbaaDoorC
namespace Go.Proofs.YtleeacgimikdbaaDoor
open Go.RowKit
attribute [local go_sem] wval_add wval_xor wval_or wval_and wval_not wval_shr wval_shl
/-- The cell of a byte. -/
def bcell (bs : List UInt8) (i : Nat) : Value := bval (bs.getD i 0)
theorem conv_u8_wval (b : UInt8) (w : World) : (convert 5 42 (bval b)).run Tryd.prog w = .ok (wval (BitVec.ofNat 32 b.toNat)) w := by
  have h : (convert 5 42 (bval b)).run Tryd.prog w = .ok (.int .u32 (IntKind.u32.wrap (b.toNat : Int))) w := by kernel_rfl
  rw [h, wval_of_wrap, BitVec.ofInt_natCast]
theorem conv_bcell (bs : List UInt8) (i : Nat) (w : World) : (convert 5 42 (bcell bs i)).run Tryd.prog w = .ok (wval (byteAt bs i)) w := conv_u8_wval _ w
def rowCells (bs : List UInt8) (t : Nat) : List Value := (rowTo bs t).map wval ++ List.replicate (64 - t) (wval 0#32)
theorem rowTo_length (bs : List UInt8) (t : Nat) : (rowTo bs t).length = t := by
  induction t with
  | zero => rfl
  | succ t ih => simp [rowTo, ih]
theorem rowCells_length (bs : List UInt8) (t : Nat) (h : t ≤ 64) : (rowCells bs t).length = 64 := by simp [rowCells, rowTo_length]; omega
theorem rowCells_at (bs : List UInt8) (t j : Nat) (h : j < t) : (rowCells bs t)[j]? = some (wval ((rowTo bs t).getD j 0)) := by
  have hl := rowTo_length bs t
  unfold rowCells
  rw [List.getElem?_append_left (by simp; omega), List.getElem?_map, List.getD_eq_getElem?_getD, List.getElem?_eq_getElem (by omega)]
  rfl
theorem rowCells_set (bs : List UInt8) (t : Nat) (h : t < 64) : (rowCells bs t).set t (wval (nextW bs (rowTo bs t) t)) = rowCells bs (t + 1) := by
  have hl := rowTo_length bs t
  unfold rowCells
  rw [List.set_append_right _ _ (by simp; omega)]
  simp only [List.length_map, hl, Nat.sub_self]
  obtain ⟨m, hm⟩ : ∃ m, 64 - t = m + 1 := ⟨63 - t, by omega⟩
  rw [hm, show 64 - (t + 1) = m by omega, List.replicate_succ, List.set_cons_zero]
  simp [rowTo]
theorem mk64 (bs : List UInt8) (w : World) : (Instr.makeSlice 52 (.int .i64 64) (.int .i64 64)).run Tryd.prog w = .ok (.slice (some ⟨w.heap.size, 0, none⟩) 64 64) (w.alloc (.cells (rowCells bs 0).toArray 42)) := by kernel_rfl
set_option maxRecDepth 100000 in
set_option maxHeartbeats 2000000 in
theorem row_any (b off c : Nat) (bs : List UInt8) (w : World) (hl : bs.length = 64) (hc : 64 ≤ c) (hcm : c ≤ maxLen) (hb : b < w.heap.size)
    (hr : ∀ j, j < 64 → w.cell? ⟨b, off + j, none⟩ = some (bcell bs j)) :
    Calls Tryd.prog 37 #[.slice (some ⟨b, off, none⟩) 64 c] w fun e w' => e = .returned (.slice (some ⟨w.heap.size, 0, none⟩) 64 64) ∧ Blk w' w.heap.size 42 ((rowTo bs 64).map wval) ∧ Below w.heap.size w w' := by
  unfold maxLen at hcm
  have hmk := mk64 bs
  have HL := Lib.hid hl
  clear hl
  have hcv := conv_bcell bs
  go_enter Tryd.func37, Tryd.ntmps37
  go_wp2
  clear hmk
  go_loopw [11] (fun i wr => ∃ t : Nat, t ≤ 64 ∧ i = .int .i64 t ∧ Blk wr w.heap.size 42 (rowCells bs t) ∧ Below w.heap.size w wr) (fun i _ => 64 - (intOf i).toNat)
  case atStart => exact ⟨0, by omega, rfl, heap_alloc_new w _, (Below.refl _ _).alloc (Nat.le_refl _) _⟩
  case round =>
    obtain ⟨t, ht, rfl, hblk, hbel⟩ := hrel
    have hrr : ∀ j, j < 64 → wr.cell? ⟨b, off + j, none⟩ = some (bcell bs j) := fun j hj => (hbel.cell (p := ⟨b, off + j, none⟩) hb).trans (hr j hj)
    have hlen := rowCells_length bs t ht
    have hfz := hblk.frozen t
    have hct := hblk.cell t
    by_cases hlt : t < 64
    · rw [List.getElem?_eq_getElem (by omega)] at hct
      generalize (rowCells bs t)[t] = old at hct
      clear hlen
      by_cases h16 : t < 16
      · have c0 := hrr (4 * t) (by omega)
        have c1 := hrr (4 * t + 1) (by omega)
        have c2 := hrr (4 * t + 2) (by omega)
        have c3 := hrr (4 * t + 3) (by omega)
        rw [← Nat.add_assoc] at c1 c2 c3
        clear hrr hr
        have HB := Lib.hid hblk
        have HW := Lib.hid hbel
        clear hblk hbel
        have hnx : byteAt bs (4 * t) <<< 24 ||| byteAt bs (4 * t + 1) <<< 16 ||| byteAt bs (4 * t + 2) <<< 8 ||| byteAt bs (4 * t + 3) = nextW bs (rowTo bs t) t := by
          unfold nextW
          rw [if_pos h16]
          rfl
        have e4 : 4 * t + 4 - 4 * t = 4 := by omega
        go_wp2
        go_still_tail 25, (by kernel_rfl)
        simp only [wval]
        go_wp2
        go_roundw
        case rel => exact ⟨t + 1, by omega, by go_num, by
          have h := (HB.out.set_ t (wval (nextW bs (rowTo bs t) t)))
          rw [rowCells_set bs t hlt] at h
          exact h, (HW.out.setCell (p := ⟨w.heap.size, t, none⟩) (Nat.le_refl _) _).drew⟩
        case measure => simp [intOf]; omega
      · have c0 := hblk.cell (t - 16)
        have c1 := hblk.cell (t - 7)
        have c2 := hblk.cell (t - 15)
        have c3 := hblk.cell (t - 2)
        rw [rowCells_at _ _ _ (by omega)] at c0 c1 c2 c3
        clear hrr hr
        have HB := Lib.hid hblk
        have HW := Lib.hid hbel
        clear hblk hbel
        have hnx : (rowTo bs t).getD (t - 16) 0 + (rowTo bs t).getD (t - 7) 0 + (rotr ((rowTo bs t).getD (t - 15) 0) 7 ^^^ rotr ((rowTo bs t).getD (t - 15) 0) 18 ^^^ ((rowTo bs t).getD (t - 15) 0) >>> 3) + (rotr ((rowTo bs t).getD (t - 2) 0) 17 ^^^ rotr ((rowTo bs t).getD (t - 2) 0) 19 ^^^ ((rowTo bs t).getD (t - 2) 0) >>> 10) = nextW bs (rowTo bs t) t := by
          unfold nextW sg0 sg1
          rw [if_neg h16]
        generalize (rowTo bs t).getD (t - 16) 0 = x16 at *
        generalize (rowTo bs t).getD (t - 7) 0 = x7 at *
        generalize (rowTo bs t).getD (t - 15) 0 = x15 at *
        generalize (rowTo bs t).getD (t - 2) 0 = x2 at *
        have i1 : (0 : Int) ≤ (t : Int) - 15 := by omega
        have i2 : (0 : Int) ≤ (t : Int) - 2 := by omega
        have i3 : (0 : Int) ≤ (t : Int) - 16 := by omega
        have i4 : (0 : Int) ≤ (t : Int) - 7 := by omega
        go_wp2
        have k16 : IntKind.i64.wrap ((t : Int) - 16) = (t : Int) - 16 := IntWalk.i64_in _ (by omega)
        have l16 : (t : Int) - 16 < 64 := by omega
        have n16 : ((t : Int) - 16).toNat = t - 16 := by omega
        have k7 : IntKind.i64.wrap ((t : Int) - 7) = (t : Int) - 7 := IntWalk.i64_in _ (by omega)
        have l7 : (t : Int) - 7 < 64 := by omega
        have n7 : ((t : Int) - 7).toNat = t - 7 := by omega
        have k15 : IntKind.i64.wrap ((t : Int) - 15) = (t : Int) - 15 := IntWalk.i64_in _ (by omega)
        have l15 : (t : Int) - 15 < 64 := by omega
        have n15 : ((t : Int) - 15).toNat = t - 15 := by omega
        have k2 : IntKind.i64.wrap ((t : Int) - 2) = (t : Int) - 2 := IntWalk.i64_in _ (by omega)
        have l2 : (t : Int) - 2 < 64 := by omega
        have n2 : ((t : Int) - 2).toNat = t - 2 := by omega
        have m16 : (16 : Int) ≤ (t : Int) := by omega
        have m7 : (7 : Int) ≤ (t : Int) := by omega
        have m15 : (15 : Int) ≤ (t : Int) := by omega
        have m2 : (2 : Int) ≤ (t : Int) := by omega
        go_still (by kernel_rfl)
        go_wp2
        refine still_tail 32 (by kernel_rfl) (by kernel_rfl) ?_
        simp only [List.take_succ_cons, List.take_zero, List.drop_succ_cons, List.drop_zero]
        repeat (first | still_step | still_call (turned_any _ _ _ (by omega) (by omega)))
        try refine wpStill_nil ?_
        simp only [wval]
        go_wp2
        go_roundw
        case rel => exact ⟨t + 1, by omega, by go_num, by
          have h := (HB.out.set_ t (wval (nextW bs (rowTo bs t) t)))
          rw [rowCells_set bs t hlt] at h
          exact h, (HW.out.setCell (p := ⟨w.heap.size, t, none⟩) (Nat.le_refl _) _).drew.drew⟩
        case measure => simp [intOf]; omega
    · clear hct hrr hr hlen hfz
      obtain rfl : t = 64 := by omega
      go_wp2
      go_ret
      refine ⟨rfl, ?_, hbel⟩
      have e : rowCells bs 64 = (rowTo bs 64).map wval := by simp [rowCells]
      rw [← e]
      exact hblk
end Go.Proofs.YtleeacgimikdbaaDoor
