/- Whatever two numbers: the program's Add and Over answer as the reference's do, and the document's examples hold. Conditions: none beyond that each number is an int. -/
import Derived.Test.YtiibkliaokkpdaaPTicksAddsx1
namespace Go.Proofs.Ytiibkliaokkpdaa.Pure
open Go.RowKit Go.Proofs.Ytiibkliaokkpdaa.PTicksAdds Go.Proofs.YtiibkliaokkpdaaW.PrintWords Go.Proofs.YtiibkliaokkpdaaW.PrintLast

def tk (a : Int) : Int := if a < 0 then 0 else if a > 1099511627776 then 1099511627776 else a
theorem tk_bd (a : Int) : 0 ≤ tk a ∧ tk a ≤ 1099511627776 := by unfold tk; (repeat' split) <;> omega
theorem tk_id {a : Int} (h : 0 ≤ a) (h2 : a ≤ 1099511627776) : tk a = a := by unfold tk; (repeat' split) <;> omega
theorem tick_tk (a : Int) : ticks_tick.f a = some (tk a) := by
  unfold ticks_tick.f ticks_held_int.f
  simp only [Option.bind_some, Option.some.injEq]
  unfold mx mn tk
  (repeat' split) <;> omega
theorem add_tk (a b : Int) : ticks_Add.f a b = some (tk (tk a + tk b)) := by
  have h1 := tk_bd a; have h2 := tk_bd b
  unfold ticks_Add.f
  simp only [tick_tk, Option.bind_some]
  rw [show wrap64 (tk a + tk b) = tk a + tk b by unfold wrap64; omega]
theorem over_tk (a b : Int) : ticks_Over.f a b = some (decide (tk a ≥ tk b ∨ tk a = 1099511627776)) := by
  unfold ticks_Over.f
  simp only [tick_tk, Option.bind_some]
  by_cases h : tk a ≥ tk b
  · rw [if_pos h]; simp [h]
  · rw [if_neg h]; congr 1; rw [Bool.eq_iff_iff]; simp [h]
theorem lives_true : liverylaw09_lives.f = some true := by decide +kernel

theorem rtick_tk (a : Int) : liveryref09_Tick.f a = some (tk a) := by
  unfold liveryref09_Tick.f tk
  (repeat' split) <;> first | rfl | omega

theorem radd_tk (a b : Int) : liveryref09_Add.f a b = some (tk (tk a + tk b)) := by
  have h1 := tk_bd a; have h2 := tk_bd b
  unfold liveryref09_Add.f
  simp only [rtick_tk, Option.bind_some]
  rw [show wrap64 (tk a + tk b) = tk a + tk b by unfold wrap64; omega]
theorem rover_tk (a b : Int) : liveryref09_Over.f a b = some (decide (tk a ≥ tk b ∨ tk a = 1099511627776)) := by
  unfold liveryref09_Over.f
  simp only [rtick_tk, Option.bind_some]
  by_cases h : tk a ≥ tk b
  · rw [if_pos h]; simp [h]
  · rw [if_neg h]; congr 1; rw [Bool.eq_iff_iff]; simp [h]

theorem TicksAdds : liverylaw09_TicksAdds.Pure := by
  intro a b _ _
  unfold liverylaw09_TicksAdds.f
  simp only [add_tk, radd_tk, over_tk, rover_tk, lives_true, Option.bind_some, if_true, beq_self_eq_true]

end Go.Proofs.Ytiibkliaokkpdaa.Pure
