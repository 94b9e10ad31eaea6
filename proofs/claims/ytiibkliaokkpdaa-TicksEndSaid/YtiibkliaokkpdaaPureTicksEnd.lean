/- Whatever two numbers: at the end of the clock all is over, and sums stay ticks and do not depend on the order. Conditions: none beyond that each number is an int. -/
import Derived.Test.YtiibkliaokkpdaaPTicksEndx1
namespace Go.Proofs.Ytiibkliaokkpdaa.Pure
open Go.RowKit Go.Proofs.Ytiibkliaokkpdaa.PTicksEnd Go.Proofs.YtiibkliaokkpdaaW.PrintWords Go.Proofs.YtiibkliaokkpdaaW.PrintLast

def tk (a : Int) : Int := if a < 0 then 0 else if a > 1099511627776 then 1099511627776 else a
theorem tk_bd (a : Int) : 0 ≤ tk a ∧ tk a ≤ 1099511627776 := by unfold tk; (repeat' split) <;> omega
theorem tk_id {a : Int} (h : 0 ≤ a) (h2 : a ≤ 1099511627776) : tk a = a := by unfold tk; (repeat' split) <;> omega
theorem tick_tk (a : Int) : ticks_tick.f a = some (tk a) := by
  unfold ticks_tick.f ticks_held_int.f
  simp only [Option.bind_some, Option.some.injEq]
  unfold mx mn tk
  (repeat' split) <;> omega
theorem add_tk (a b : Int) : ticks_Add.f a b = some (tk (tk a + tk b)) := by
  have h1 := tk_bd a; have h2 := tk_bd b
  unfold ticks_Add.f
  simp only [tick_tk, Option.bind_some]
  rw [show wrap64 (tk a + tk b) = tk a + tk b by unfold wrap64; omega]
theorem over_tk (a b : Int) : ticks_Over.f a b = some (decide (tk a ≥ tk b ∨ tk a = 1099511627776)) := by
  unfold ticks_Over.f
  simp only [tick_tk, Option.bind_some]
  by_cases h : tk a ≥ tk b
  · rw [if_pos h]; simp [h]
  · rw [if_neg h]; congr 1; rw [Bool.eq_iff_iff]; simp [h]
theorem lives_true : liverylaw09_lives.f = some true := by decide +kernel

theorem TicksEnd : liverylaw09_TicksEnd.Pure := by
  intro a b _ _
  have h1 := tk_bd a; have h2 := tk_bd b; have h3 := tk_bd (tk a + tk b)
  have e : tk 1099511627776 = 1099511627776 := by decide
  have e2 : tk (1099511627776 + tk a) = 1099511627776 := by unfold tk; (repeat' split) <;> omega
  unfold liverylaw09_TicksEnd.f
  simp only [add_tk, over_tk, lives_true, Option.bind_some, e, e2]
  rw [if_pos (by simp), if_pos (by simp), if_pos h3.1, if_pos h3.2, Int.add_comm (tk b), if_pos rfl]

end Go.Proofs.Ytiibkliaokkpdaa.Pure
