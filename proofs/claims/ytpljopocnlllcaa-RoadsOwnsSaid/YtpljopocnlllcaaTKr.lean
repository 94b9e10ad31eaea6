/- The reference's. -/
import Derived.Test.YtpljopocnlllcaaTK
namespace Go.Proofs.Ytpljopocnlllcaa
open Go.RowKit
theorem rtick_any (n : Int) (w : World) : Calls Try.prog 32 #[.int .i64 n] w fun e w' => e = .returned (.int .i64 (tickF n)) ∧ w = w' := by
  have hf : Hid (tickF n = max 0 (min n 1099511627776)) := rfl
  by_cases h0 : n < 0
  · go_enter Try.func32, Try.ntmps32
    go_wp2
    go_ret
    exact ⟨ret_int (by rw [hf.out]; omega), rfl⟩
  · by_cases h1 : 1099511627776 < n
    · go_enter Try.func32, Try.ntmps32
      go_wp2
      go_ret
      exact ⟨ret_int (by rw [hf.out]; omega), rfl⟩
    · go_enter Try.func32, Try.ntmps32
      go_wp2
      go_ret
      exact ⟨ret_int (by rw [hf.out]; omega), rfl⟩
theorem rbound_any (n : Int) (w : World) : Calls Try.prog 16 #[.int .i64 n] w fun e w' => e = .returned (.int .i64 (boundF n)) ∧ w = w' := by
  have hf : Hid (boundF n = (tickF n * 8 + 6) / 7) := rfl
  have ha := tickF_bd n
  obtain ⟨ha0, ha1⟩ := ha
  go_enter Try.func16, Try.ntmps16
  go_wp2_with fail
  refine (rtick_any _ _).mono ?_
  rintro e w' ⟨rfl, rfl⟩
  generalize tickF n = m at *
  by_cases hc : m * 8 / 7 * 7 < m * 8
  · go_wp2_with fail
    go_ret
    exact ⟨ret_int (by rw [hf.out]; omega), rfl⟩
  · go_wp2_with fail
    go_ret
    exact ⟨ret_int (by rw [hf.out]; omega), rfl⟩
end Go.Proofs.Ytpljopocnlllcaa
