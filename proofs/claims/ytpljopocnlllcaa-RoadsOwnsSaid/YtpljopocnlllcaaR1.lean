/- Contracts of the functions that read: Time, Len, is, Clock, the reference's Clock. -/
import Derived.Test.YtpljopocnlllcaaRP
namespace Go.Proofs.Ytpljopocnlllcaa
open Go.RowKit
attribute [local go_sem ↓] Go.wp_at_zero Go.wp_at_succ
theorem time_any {w : World} {p : Nat} {s : St} {F : Nat → Prop} (h : Rep 51 64 w p s F) : Calls Try.prog 14 #[.pointer (some ⟨p, 0, none⟩)] w fun e w' => e = .returned (.int .i64 s.time) ∧ w = w' := by
  obtain ⟨cv, kv, qs, h⟩ := h
  have h0 : w.cell? ⟨p, 0, none⟩ = some (.int .i64 s.time) := h.ptr.cell 0
  clear h
  go_enter Try.func14, Try.ntmps14
  go_wp2
  go_ret
  exact ⟨rfl, rfl⟩
theorem len_any {w : World} {p : Nat} {s : St} {F : Nat → Prop} (h : Rep 51 64 w p s F) : Calls Try.prog 21 #[.pointer (some ⟨p, 0, none⟩)] w fun e w' => e = .returned (.int .i64 (s.ps.length : Int)) ∧ w = w' := by
  obtain ⟨cv, kv, qs, h⟩ := h
  obtain ⟨A, cap, hkv, _, _⟩ := h.pks.slice
  have hl := h.len
  have h0 : w.cell? ⟨p, 2, none⟩ = some kv := h.ptr.cell 2
  rw [hkv] at h0
  have HL := Lib.hid hl
  clear h hl hkv
  go_enter Try.func21, Try.ntmps21
  go_wp2
  go_ret
  exact ⟨by rw [← HL.out]; rfl, rfl⟩
def isB (n : Nat) (d : Int) : Bool := decide (1 ≤ d) && decide (d ≤ (n : Int))
theorem is_any {w : World} {p : Nat} {s : St} {F : Nat → Prop} (d : Int) (h : Rep 51 64 w p s F) : Calls Try.prog 31 #[.pointer (some ⟨p, 0, none⟩), .int .i64 d] w fun e w' => e = .returned (.bool (isB s.clocks.length d)) ∧ w = w' := by
  obtain ⟨cv, kv, qs, h⟩ := h
  obtain ⟨A, cap, hcv, _, _⟩ := h.clk.slice
  have h0 : w.cell? ⟨p, 1, none⟩ = some cv := h.ptr.cell 1
  rw [hcv] at h0
  clear h hcv
  have HB : Hid (isB s.clocks.length d = (decide (1 ≤ d) && decide (d ≤ (s.clocks.length : Int)))) := rfl
  generalize isB s.clocks.length d = b at *
  by_cases h1 : 1 ≤ d
  · have hd : decide (1 ≤ d) = true := by simpa using h1
    go_enter Try.func31, Try.ntmps31
    go_wp2
    go_ret
    exact ⟨by rw [HB.out, hd]; first | rfl | simp, rfl⟩
  · have hd : decide (1 ≤ d) = false := by simpa using h1
    go_enter Try.func31, Try.ntmps31
    go_wp2
    go_ret
    exact ⟨by rw [HB.out, hd]; first | rfl | simp, rfl⟩
def clockF (s : St) (d : Int) : Int := if 1 ≤ d ∧ d ≤ (s.clocks.length : Int) then s.clocks.getD (d.toNat - 1) 0 else 0
theorem clock_any {w : World} {p : Nat} {s : St} {F : Nat → Prop} (d : Int) (h : Rep 51 64 w p s F) : Calls Try.prog 15 #[.pointer (some ⟨p, 0, none⟩), .int .i64 d] w fun e w' => e = .returned (.int .i64 (clockF s d)) ∧ w = w' := by
  have hi := Lib.hid (is_any d h)
  obtain ⟨cv, kv, qs, h⟩ := h
  by_cases hd : 1 ≤ d ∧ d ≤ (s.clocks.length : Int)
  · have hc : Hid (clockF s d = s.clocks.getD (d.toNat - 1) 0) := if_pos hd
    have hb : isB s.clocks.length d = true := by unfold isB; simp [hd]
    obtain ⟨g, off, cap, hcv, hnc, hcm, hgl⟩ := h.clk.form (by omega)
    have h0 : w.cell? ⟨p, 1, none⟩ = some cv := h.ptr.cell 1
    rw [hcv] at h0
    have hk := h.clk
    rw [hcv] at hk
    have hcell : w.cell? ⟨g, off + (d.toNat - 1), none⟩ = some (.int .i64 (s.clocks.getD (d.toNat - 1) 0)) := hk.cells _ _ (ivals_at _ _ (by omega))
    clear h hk hcv
    rw [hb] at hi
    generalize s.clocks.getD (d.toNat - 1) 0 = z at *
    generalize s.clocks.length = n at *
    obtain ⟨d1, d2⟩ := hd
    have d3 : 0 ≤ d - 1 := by omega
    have d4 : d - 1 < (n : Int) := by omega
    unfold maxLen at hcm
    have d5 : d ≤ 9223372036854775807 := by omega
    clear hb
    go_enter Try.func15, Try.ntmps15
    go_wp2_with fail
    refine hi.out.mono ?_
    rintro e w' ⟨rfl, rfl⟩
    go_wp2
    go_ret
    exact ⟨by rw [hc.out]; rfl, rfl⟩
  · have hc : Hid (clockF s d = 0) := if_neg hd
    have hb : isB s.clocks.length d = false := by unfold isB; by_cases h1 : 1 ≤ d <;> simp [h1] <;> omega
    rw [hb] at hi
    clear hb hd h
    go_enter Try.func15, Try.ntmps15
    go_wp2_with fail
    refine hi.out.mono ?_
    rintro e w' ⟨rfl, rfl⟩
    go_wp2
    go_ret
    exact ⟨by rw [hc.out]; rfl, rfl⟩
theorem rclock_any {w : World} {p : Nat} {s : St} {F : Nat → Prop} (d : Int) (h : Rep 54 57 w p s F) : Calls Try.prog 28 #[.pointer (some ⟨p, 0, none⟩), .int .i64 d] w fun e w' => e = .returned (.int .i64 (clockF s d)) ∧ w = w' := by
  obtain ⟨cv, kv, qs, h⟩ := h
  obtain ⟨A, cap, hcv, hnc, hcm⟩ := h.clk.slice
  have h0 : w.cell? ⟨p, 1, none⟩ = some cv := h.ptr.cell 1
  rw [hcv] at h0
  unfold maxLen at hcm
  by_cases hd : 1 ≤ d ∧ d ≤ (s.clocks.length : Int)
  · have hc : Hid (clockF s d = s.clocks.getD (d.toNat - 1) 0) := if_pos hd
    obtain ⟨g, off, cap', hcv', hnc, hcm, hgl⟩ := h.clk.form (by omega)
    rw [hcv'] at hcv
    obtain ⟨rfl, rfl⟩ : some ⟨g, off, none⟩ = A ∧ cap' = cap := by injection hcv with e1 _ e2; exact ⟨e1, e2⟩
    have hk := h.clk
    rw [hcv'] at hk
    have hcell : w.cell? ⟨g, off + (d.toNat - 1), none⟩ = some (.int .i64 (s.clocks.getD (d.toNat - 1) 0)) := hk.cells _ _ (ivals_at _ _ (by omega))
    clear h hk hcv hcv'
    generalize s.clocks.getD (d.toNat - 1) 0 = z at *
    generalize s.clocks.length = n at *
    obtain ⟨d1, d2⟩ := hd
    have d3 : 0 ≤ d - 1 := by omega
    have d4 : d - 1 < (n : Int) := by omega
    have d5 : d ≤ 9223372036854775807 := by omega
    have d6 : decide (d < 1) = false := by simp; omega
    have d7 : decide ((n : Int) < d) = false := by simp; omega
    go_enter Try.func28, Try.ntmps28
    go_wp2
    go_ret
    exact ⟨by rw [hc.out]; rfl, rfl⟩
  · have hc : Hid (clockF s d = 0) := if_neg hd
    clear h hcv
    by_cases h1 : d < 1
    · have d6 : decide (d < 1) = true := by simp; omega
      clear hd
      go_enter Try.func28, Try.ntmps28
      go_wp2
      go_ret
      exact ⟨by rw [hc.out]; rfl, rfl⟩
    · have d6 : decide (d < 1) = false := by simp; omega
      have d7 : decide ((s.clocks.length : Int) < d) = true := by simp; omega
      clear hd
      go_enter Try.func28, Try.ntmps28
      go_wp2
      go_ret
      exact ⟨by rw [hc.out]; rfl, rfl⟩
end Go.Proofs.Ytpljopocnlllcaa
