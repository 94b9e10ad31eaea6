/- The reference's Goes and Add. -/
import Derived.Test.YtpljopocnlllcaaTKr
namespace Go.Proofs.Ytpljopocnlllcaa
open Go.RowKit
theorem radd_any (a b : Int) (w : World) : Calls Try.prog 36 #[.int .i64 a, .int .i64 b] w fun e w' => e = .returned (.int .i64 (addF a b)) ∧ w = w' := by
  have ha := tickF_bd a
  have hb := tickF_bd b
  have hf : Hid (addF a b = tickF (tickF a + tickF b)) := rfl
  obtain ⟨ha0, ha1⟩ := ha
  obtain ⟨hb0, hb1⟩ := hb
  go_enter Try.func36, Try.ntmps36
  go_wp2_with fail
  refine (rtick_any _ _).mono ?_
  rintro e w' ⟨rfl, rfl⟩
  go_wp2_with fail
  refine (rtick_any _ _).mono ?_
  rintro e w' ⟨rfl, rfl⟩
  generalize tickF a = x at *
  generalize tickF b = y at *
  go_wp2_with fail
  refine (rtick_any _ _).mono ?_
  rintro e w' ⟨rfl, rfl⟩
  go_wp2_with fail
  go_ret
  rw [hf.out]
  exact ⟨rfl, rfl⟩
theorem goes_tail (m s : Int) (_h0 : 0 ≤ m) (_h1 : m ≤ 64) : (m / 8 < s ∧ m + clampI s (-(m / 8)) (m / 8) = m + m / 8) ∨ (¬ m / 8 < s ∧ s < -(m / 8) ∧ m + clampI s (-(m / 8)) (m / 8) = m + -(m / 8)) ∨ (¬ m / 8 < s ∧ ¬ s < -(m / 8) ∧ m + clampI s (-(m / 8)) (m / 8) = m + s) := by
  unfold clampI
  omega
theorem rgoes_any (n s : Int) (w : World) : Calls Try.prog 35 #[.int .i64 n, .int .i64 s] w fun e w' => e = .returned (.int .i64 (goesF n s)) ∧ w = w' := by
  have hf : goesF n s = clampI n 0 64 + clampI s (-(clampI n 0 64 / 8)) (clampI n 0 64 / 8) := rfl
  have hm : (n < 0 ∧ clampI n 0 64 = 0) ∨ (¬ n < 0 ∧ 64 < n ∧ clampI n 0 64 = 64) ∨ (¬ n < 0 ∧ ¬ 64 < n ∧ clampI n 0 64 = n) := by unfold clampI; omega
  have hb : 0 ≤ clampI n 0 64 ∧ clampI n 0 64 ≤ 64 := by unfold clampI; omega
  have ht := goes_tail (clampI n 0 64) s hb.1 hb.2
  rw [← hf] at ht
  clear hf
  have HX : Hid (∀ x, goesF n s = x → Ending.returned (.int .i64 x) = .returned (.int .i64 (goesF n s))) := fun x h => by rw [h]
  generalize goesF n s = G at *
  generalize clampI n 0 64 = m at *
  rcases hm with ⟨h0, h1⟩ | ⟨h0, h2, h1⟩ | ⟨h0, h2, h1⟩
  all_goals
    subst m
    rcases ht with ⟨t0, t1⟩ | ⟨t0, t2, t1⟩ | ⟨t0, t2, t1⟩
    all_goals
      have T1 := Lib.hid t1
      clear t1
      go_enter Try.func35, Try.ntmps35
      go_wp2
      go_ret
      exact ⟨HX.out _ (by rw [T1.out]; try omega), rfl⟩
end Go.Proofs.Ytpljopocnlllcaa
