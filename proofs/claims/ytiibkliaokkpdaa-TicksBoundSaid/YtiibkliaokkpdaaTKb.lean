/- Bound. -/
import Derived.Test.YtiibkliaokkpdaaTK
namespace Go.Proofs.Ytiibkliaokkpdaa
open Go.RowKit
theorem bound_any (n : Int) (w : World) : Calls Try.prog 16 #[.int .i64 n] w fun e w' => e = .returned (.int .i64 (boundF n)) ∧ w = w' := by
  have hf : Hid (boundF n = (tickF n * 8 + 6) / 7) := rfl
  have ha := tickF_bd n
  obtain ⟨ha0, ha1⟩ := ha
  go_enter Try.func16, Try.ntmps16
  go_wp2_with fail
  refine (tick_any _ _).mono ?_
  rintro e w' ⟨rfl, rfl⟩
  generalize tickF n = m at *
  go_wp2_with fail
  go_ret
  rw [hf.out]
  exact ⟨ret_int (by omega), rfl⟩
end Go.Proofs.Ytiibkliaokkpdaa
