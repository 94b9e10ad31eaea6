/- Whatever three numbers: what is over stays over as the clock goes on, and a longer time is over no sooner. Conditions: none beyond that each number is an int. -/
import Derived.Test.YtiibkliaokkpdaaPTicksStaysx1
namespace Go.Proofs.Ytiibkliaokkpdaa.Pure
open Go.RowKit Go.Proofs.Ytiibkliaokkpdaa.PTicksStays Go.Proofs.YtiibkliaokkpdaaW.PrintWords Go.Proofs.YtiibkliaokkpdaaW.PrintLast

def tk (a : Int) : Int := if a < 0 then 0 else if a > 1099511627776 then 1099511627776 else a
theorem tk_bd (a : Int) : 0 ≤ tk a ∧ tk a ≤ 1099511627776 := by unfold tk; (repeat' split) <;> omega
theorem tk_id {a : Int} (h : 0 ≤ a) (h2 : a ≤ 1099511627776) : tk a = a := by unfold tk; (repeat' split) <;> omega
theorem tick_tk (a : Int) : ticks_tick.f a = some (tk a) := by
  unfold ticks_tick.f ticks_held_int.f
  simp only [Option.bind_some, Option.some.injEq]
  unfold mx mn tk
  (repeat' split) <;> omega
theorem add_tk (a b : Int) : ticks_Add.f a b = some (tk (tk a + tk b)) := by
  have h1 := tk_bd a; have h2 := tk_bd b
  unfold ticks_Add.f
  simp only [tick_tk, Option.bind_some]
  rw [show wrap64 (tk a + tk b) = tk a + tk b by unfold wrap64; omega]
theorem over_tk (a b : Int) : ticks_Over.f a b = some (decide (tk a ≥ tk b ∨ tk a = 1099511627776)) := by
  unfold ticks_Over.f
  simp only [tick_tk, Option.bind_some]
  by_cases h : tk a ≥ tk b
  · rw [if_pos h]; simp [h]
  · rw [if_neg h]; congr 1; rw [Bool.eq_iff_iff]; simp [h]
theorem lives_true : liverylaw09_lives.f = some true := by decide +kernel

theorem tk_tk (a : Int) : tk (tk a) = tk a := tk_id (tk_bd a).1 (tk_bd a).2
theorem tk_sum (a c : Int) (ha : 0 ≤ a) (hc : 0 ≤ c) : a ≤ 1099511627776 → a ≤ tk (a + c) := by
  intro h; unfold tk; (repeat' split) <;> omega
theorem j1_true (k : Nat) (a b c : Int) : liverylaw09_TicksStays.j1 (k + 1) a b c false = some true := by
  have ha := tk_bd a; have hb := tk_bd b; have hc := tk_bd c
  have hs := tk_sum (tk b) (tk c) hb.1 hc.1 hb.2
  simp only [liverylaw09_TicksStays.j1]
  rw [if_neg (by simp)]
  simp only [add_tk, over_tk, lives_true, Option.bind_some, tk_tk]
  by_cases h : tk a ≥ tk (tk b + tk c) ∨ tk a = 1099511627776
  · rw [if_pos (by simpa using h), if_pos (by simp; omega)]
  · rw [if_neg (by simpa using h)]
theorem j0_true (k : Nat) (a b c : Int) : liverylaw09_TicksStays.j0 (k + 2) a b c = some true := by
  have ha := tk_bd a; have hb := tk_bd b; have hc := tk_bd c
  have hs := tk_sum (tk a) (tk c) ha.1 hc.1 ha.2
  have hs2 := tk_bd (tk a + tk c)
  rw [show k + 2 = (k + 1) + 1 from rfl]
  simp only [liverylaw09_TicksStays.j0]
  simp only [add_tk, over_tk, Option.bind_some, tk_tk]
  by_cases h : tk a ≥ tk b ∨ tk a = 1099511627776
  · rw [if_pos (by simpa using h)]
    rw [show (!decide (tk (tk a + tk c) ≥ tk b ∨ tk (tk a + tk c) = 1099511627776)) = false by simp; omega]
    exact j1_true k a b c
  · rw [if_neg (by simpa using h)]; exact j1_true k a b c
theorem TicksStays : liverylaw09_TicksStays.Pure := by
  intro a b c _ _ _
  refine ⟨2, ?_⟩
  unfold liverylaw09_TicksStays.f
  split
  · exact j0_true 0 _ _ _
  · exact j0_true 0 _ _ _

end Go.Proofs.Ytiibkliaokkpdaa.Pure
