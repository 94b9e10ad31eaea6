/- The closure of Tag. -/
import Derived.Test.YtleeacgimikdbaaDoorM2
namespace Go.Proofs.YtleeacgimikdbaaDoor
open Go.RowKit
attribute [local go_sem ↓] Go.wp_at_zero Go.wp_at_succ
theorem u8_xor (x b : UInt8) : bits .xor .u8 (x.toNat : Int) (b.toNat : Int) = ((x ^^^ b).toNat : Int) := by
  show IntKind.u8.wrap ((BitVec.ofInt 8 (x.toNat : Int) ^^^ BitVec.ofInt 8 (b.toNat : Int)).toNat : Int) = _
  have e : ∀ y : UInt8, BitVec.ofInt 8 (y.toNat : Int) = y.toBitVec := fun y => by
    apply BitVec.eq_of_toNat_eq
    simp
  rw [e, e, wrap_u8]
  congr 1
  simp
def zeros64 : List UInt8 := List.replicate 64 0
theorem zeros64_length : zeros64.length = 64 := by simp [zeros64]
theorem Rd.src {w : World} {A : Option Addr} {xs : List Value} (h : Rd w A xs) (h0 : 0 < xs.length) : ∃ ad, A = some ad ∧ ∀ j v, xs[j]? = some v → w.cell? (ad.add j) = some v := by
  obtain ⟨b, off, e, _, hc⟩ := h.at h0
  exact ⟨_, e, fun j v hv => by rw [Addr.add_lit]; exact hc j v hv⟩
def padTo64 (k : List UInt8) : List UInt8 := k ++ List.replicate (64 - k.length) 0
theorem padTo64_length (k : List UInt8) (h : k.length ≤ 64) : (padTo64 k).length = 64 := by unfold padTo64; simp; omega
theorem splice_pad (k : List UInt8) : splice (bvals (zeros64)) 0 (bvals k) = bvals (padTo64 k) := by
  unfold splice padTo64 zeros64
  rw [List.take_zero, List.nil_append, Nat.zero_add, bvals_append, bvals_length, ← bvals_drop, List.drop_replicate]
def xorTo (l : List UInt8) (b : UInt8) (k : Nat) : List UInt8 := xorAll (l.take k) b ++ l.drop k
theorem xorTo_zero (l : List UInt8) (b : UInt8) : xorTo l b 0 = l := by simp [xorTo, xorAll]
theorem xorTo_full (l : List UInt8) (b : UInt8) (k : Nat) (h : l.length ≤ k) : xorTo l b k = xorAll l b := by
  unfold xorTo
  rw [List.take_of_length_le h, List.drop_eq_nil_of_le h, List.append_nil]
theorem xorTo_length (l : List UInt8) (b : UInt8) (k : Nat) : (xorTo l b k).length = l.length := by
  unfold xorTo xorAll
  simp
  omega
theorem xorTo_get (l : List UInt8) (b : UInt8) (k : Nat) (h : k < l.length) : (xorTo l b k).getD k 0 = l.getD k 0 := by
  unfold xorTo xorAll
  rw [List.getD_eq_getElem?_getD, List.getElem?_append_right (by simp; omega)]
  simp [List.getElem?_drop]
  congr 2
  omega
theorem xorTo_succ (l : List UInt8) (b : UInt8) (k : Nat) (h : k < l.length) : (bvals (xorTo l b k)).set k (bval (l.getD k 0 ^^^ b)) = bvals (xorTo l b (k + 1)) := by
  apply List.ext_getElem?
  intro j
  rw [List.getElem?_set]
  unfold bvals
  rw [List.length_map, xorTo_length, List.getElem?_map, List.getElem?_map]
  unfold xorTo xorAll
  by_cases hj : k = j
  · subst hj
    rw [if_pos rfl, if_pos h, List.getElem?_append_left (by simp; omega)]
    simp [List.getD_eq_getElem?_getD, h]
  · rw [if_neg hj]
    by_cases hlt : j < k
    · rw [List.getElem?_append_left (by simp; omega), List.getElem?_append_left (by simp; omega)]
      simp [hlt, show j < k + 1 by omega]
    · rw [List.getElem?_append_right (by simp; omega), List.getElem?_append_right (by simp; omega)]
      simp only [List.length_map, List.length_take, List.getElem?_drop]
      congr 2
      omega
theorem mkb64 (w : World) : (Instr.makeSlice 22 (.int .i64 64) (.int .i64 64)).run Tryd.prog w = .ok (.slice (some ⟨w.heap.size, 0, none⟩) 64 64) (w.alloc (.cells (bvals (zeros64)).toArray 5)) := by kernel_rfl
theorem own_of_blk {w : World} {g base : Nat} {e : TypeId} {cs : List Value} (h : Blk w g e cs) (hb : base ≤ g) (hm : cs.length ≤ maxLen) : w.ownsRow base e 1 (.slice (some ⟨g, 0, none⟩) cs.length cs.length) cs.length cs :=
  ⟨by simp, .inr ⟨g, cs.length, cs.toArray, rfl, hb, h, Nat.le_refl _, hm, by simp, by simp⟩⟩
set_option maxRecDepth 100000 in
set_option maxHeartbeats 1000000 in
theorem with_any (b : UInt8) (kb : Nat) (A : Option Addr) (c : Nat) (key : List UInt8) (w : World) (hc : w.cell? ⟨kb, 0, none⟩ = some (.slice A key.length c)) (hk : Rd w A (bvals key)) (hl : key.length ≤ 64) :
    Calls Tryd.prog 35 #[.int .u8 (b.toNat : Int), .pointer (some ⟨kb, 0, none⟩)] w fun e w' => ∃ g, e = .returned (.slice (some ⟨g, 0, none⟩) 64 64) ∧ w'.ownsRow w.heap.size 5 1 (.slice (some ⟨g, 0, none⟩) 64 64) 64 (bvals (xorAll (padTo64 key) b)) ∧ Below w.heap.size w w' := by
  have hmk := mkb64
  have hlt := World.block_lt_of_cell? w _ hc
  simp only at hlt
  have HK := Lib.hid hk
  have hc1 : ∀ o, (w.alloc o).cell? ⟨kb, 0, none⟩ = some (.slice A key.length c) := fun o => ((Below.refl w.heap.size w).alloc (Nat.le_refl _) o |>.cell (p := ⟨kb, 0, none⟩) hlt).trans hc
  clear hk hc
  go_enter Tryd.func35, Tryd.ntmps35
  go_wp2_with (((with_reducible refine wpList_copy_splice rfl (.tmp 7) (.tmp 8) 22 22 rfl 5 Tryd.underlying22 (by kernel_rfl) (some ⟨w.heap.size, 0, none⟩) A 64 64 key.length c rfl rfl w.heap.size 0 (bvals zeros64) 5 ?g1 (bvals key) ?g2 ?g3 ?g4 (bvals_one _) w.heap.size w ?g5 (Nat.le_refl _) ?_); (case g1 => exact Blk.new w 5 (bvals zeros64)); (case g2 => rw [bvals_length]; exact (Nat.min_eq_left hl).symm); (case g3 => exact fun h0 => ⟨rfl, (HK.out.alloc _).src h0⟩); (case g4 => rw [bvals_length, bvals_length, zeros64_length]; omega); (case g5 => exact (Below.refl _ _).alloc (Nat.le_refl _) _); intro W2 hg2 hb2))
  have HB : Hid (Blk W2 w.heap.size 5 (bvals (padTo64 key))) := by
    have := hg2.out
    rw [splice_pad] at this
    exact this
  have HV := Lib.hid hb2
  clear hg2 hb2 hc1 hmk
  have hp := padTo64_length key hl
  have HP := Lib.hid hp
  generalize hl2 : padTo64 key = l at *
  have HL2 := Lib.hid hl2
  clear hp hl2
  go_wp2_with fail
  go_loopw [12] (fun i wr => ∃ k : Nat, k ≤ 64 ∧ i = .int .i64 (k : Int) ∧ Blk wr w.heap.size 5 (bvals (xorTo l b k)) ∧ Below w.heap.size w wr) (fun i _ => 64 - (intOf i).toNat)
  case atStart => exact ⟨0, by omega, rfl, by rw [xorTo_zero]; exact HB.out, HV.out⟩
  case round =>
    clear HB HV
    obtain ⟨k, hk, rfl, hB, hV⟩ := hrel
    by_cases hlt : k < 64
    · have hlt' : (k : Int) < 64 := by omega
      have hcell : wr.cell? ⟨w.heap.size, k, none⟩ = some (.int .u8 ((l.getD k 0).toNat : Int)) := by
        rw [hB.cell, bvals_at _ _ (by rw [xorTo_length, HP.out]; exact hlt), xorTo_get _ _ _ (by rw [HP.out]; exact hlt)]
        rfl
      have hfz := hB.frozen k
      have hset := Lib.hid (xorTo_succ l b k (by rw [HP.out]; exact hlt))
      have hx := u8_xor (l.getD k 0) b
      generalize l.getD k 0 = x at hcell hx hset
      have HB := Lib.hid hB
      have HV := Lib.hid hV
      clear hB hV
      go_wp2_with fail
      go_roundw
      case rel =>
        refine ⟨k + 1, by omega, by go_num, ?_, HV.out.setCell (Nat.le_refl _) _⟩
        rw [← hset.out]
        exact HB.out.set_ k _
      case measure => simp [intOf]; omega
    · obtain rfl : k = 64 := by omega
      rw [xorTo_full _ _ _ (by rw [HP.out]; exact Nat.le_refl _)] at hB
      have hxl : (bvals (xorAll l b)).length = 64 := by rw [bvals_length]; unfold xorAll; rw [List.length_map, HP.out]
      have HB := Lib.hid hB
      have HV := Lib.hid hV
      have HX := Lib.hid hxl
      clear hB hV hxl
      go_wp2_with fail
      go_ret
      have ho := own_of_blk HB.out (Nat.le_refl _) (by rw [HX.out]; unfold maxLen; omega)
      rw [HX.out] at ho
      rw [HL2.out]
      exact ⟨_, rfl, ho, HV.out⟩
end Go.Proofs.YtleeacgimikdbaaDoor
