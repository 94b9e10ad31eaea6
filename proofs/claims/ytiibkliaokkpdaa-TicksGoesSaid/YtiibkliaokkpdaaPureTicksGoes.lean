/- Whatever two numbers: the program's Goes and Bound answer as the reference's do, and the document's examples hold. Conditions: none beyond that each number is an int. -/
import Derived.Test.YtiibkliaokkpdaaPTicksGoesx1
namespace Go.Proofs.Ytiibkliaokkpdaa.Pure
open Go.RowKit Go.Proofs.Ytiibkliaokkpdaa.PTicksGoes Go.Proofs.YtiibkliaokkpdaaW.PrintWords Go.Proofs.YtiibkliaokkpdaaW.PrintLast

def tk (a : Int) : Int := if a < 0 then 0 else if a > 1099511627776 then 1099511627776 else a
theorem tk_bd (a : Int) : 0 ≤ tk a ∧ tk a ≤ 1099511627776 := by unfold tk; (repeat' split) <;> omega
theorem tk_id {a : Int} (h : 0 ≤ a) (h2 : a ≤ 1099511627776) : tk a = a := by unfold tk; (repeat' split) <;> omega
theorem tick_tk (a : Int) : ticks_tick.f a = some (tk a) := by
  unfold ticks_tick.f ticks_held_int.f
  simp only [Option.bind_some, Option.some.injEq]
  unfold mx mn tk
  (repeat' split) <;> omega
theorem add_tk (a b : Int) : ticks_Add.f a b = some (tk (tk a + tk b)) := by
  have h1 := tk_bd a; have h2 := tk_bd b
  unfold ticks_Add.f
  simp only [tick_tk, Option.bind_some]
  rw [show wrap64 (tk a + tk b) = tk a + tk b by unfold wrap64; omega]
theorem over_tk (a b : Int) : ticks_Over.f a b = some (decide (tk a ≥ tk b ∨ tk a = 1099511627776)) := by
  unfold ticks_Over.f
  simp only [tick_tk, Option.bind_some]
  by_cases h : tk a ≥ tk b
  · rw [if_pos h]; simp [h]
  · rw [if_neg h]; congr 1; rw [Bool.eq_iff_iff]; simp [h]
theorem lives_true : liverylaw09_lives.f = some true := by decide +kernel

def gs (n s : Int) : Int :=
  let m := if n < 0 then 0 else if n > 64 then 64 else n
  m + (if s > m / 8 then m / 8 else if s < -(m / 8) then -(m / 8) else s)
theorem goes_gs (n s : Int) : ticks_Goes.f n s = some (gs n s) := by
  unfold ticks_Goes.f ticks_held_int.f
  simp only [Option.bind_some, Option.some.injEq]
  have hm : mx 0 (mn n 64) = if n < 0 then 0 else if n > 64 then 64 else n := by
    unfold mx mn; (repeat' split) <;> omega
  rw [hm]
  show _ = (if n < 0 then 0 else if n > 64 then 64 else n) + (if s > (if n < 0 then 0 else if n > 64 then 64 else n) / 8 then (if n < 0 then 0 else if n > 64 then 64 else n) / 8 else if s < -((if n < 0 then 0 else if n > 64 then 64 else n) / 8) then -((if n < 0 then 0 else if n > 64 then 64 else n) / 8) else s)
  generalize hk : (if n < 0 then 0 else if n > 64 then 64 else n) = m
  have h0 : 0 ≤ m := by rw [← hk]; (repeat' split) <;> omega
  have h1 : m ≤ 64 := by rw [← hk]; (repeat' split) <;> omega
  rw [Int.tdiv_eq_ediv_of_nonneg h0]
  rw [show wrap64 (m / 8) = m / 8 by unfold wrap64; omega, show wrap64 (-(m / 8)) = -(m / 8) by unfold wrap64; omega]
  have hx : mx (-(m / 8)) (mn s (m / 8)) = (if s > m / 8 then m / 8 else if s < -(m / 8) then -(m / 8) else s) := by
    unfold mx mn; (repeat' split) <;> omega
  rw [hx]
  have h2 : -8 ≤ (if s > m / 8 then m / 8 else if s < -(m / 8) then -(m / 8) else s) := by (repeat' split) <;> omega
  have h3 : (if s > m / 8 then m / 8 else if s < -(m / 8) then -(m / 8) else s) ≤ 8 := by (repeat' split) <;> omega
  generalize (if s > m / 8 then m / 8 else if s < -(m / 8) then -(m / 8) else s) = q at h2 h3 ⊢
  unfold wrap64; omega

def bn (n : Int) : Int := (tk n * 8 + 6) / 7
theorem bound_bn (n : Int) : ticks_Bound.f n = some (bn n) := by
  have h := tk_bd n
  unfold ticks_Bound.f bn
  simp only [tick_tk, Option.bind_some, Option.some.injEq]
  rw [show wrap64 (tk n * 8) = tk n * 8 by unfold wrap64; omega, show wrap64 (tk n * 8 + 7) = tk n * 8 + 7 by unfold wrap64; omega,
    show wrap64 (tk n * 8 + 7 - 1) = tk n * 8 + 6 by unfold wrap64; omega, Int.tdiv_eq_ediv_of_nonneg (by omega)]
  unfold wrap64; omega

theorem rtick_tk (a : Int) : liveryref09_Tick.f a = some (tk a) := by
  unfold liveryref09_Tick.f tk
  (repeat' split) <;> first | rfl | omega

theorem rbound_bn (n : Int) : liveryref09_Bound.f n = some (bn n) := by
  have h := tk_bd n
  unfold liveryref09_Bound.f bn
  simp only [rtick_tk, Option.bind_some]
  rw [show wrap64 (tk n * 8) = tk n * 8 by unfold wrap64; omega, Int.tdiv_eq_ediv_of_nonneg (by omega)]
  rw [show wrap64 (tk n * 8 / 7) = tk n * 8 / 7 by unfold wrap64; omega, show wrap64 (tk n * 8 / 7 * 7) = tk n * 8 / 7 * 7 by unfold wrap64; omega,
    show wrap64 (tk n * 8 / 7 + 1) = tk n * 8 / 7 + 1 by unfold wrap64; omega]
  split <;> (congr 1; omega)
theorem j1_gs (k : Nat) (m s : Int) (h0 : 0 ≤ m) (h1 : m ≤ 64) :
    liveryref09_Goes.j1 (k + 1) m s = some (m + (if s > m / 8 then m / 8 else if s < -(m / 8) then -(m / 8) else s)) := by
  simp only [liveryref09_Goes.j1]
  rw [Int.tdiv_eq_ediv_of_nonneg h0]
  rw [show wrap64 (m / 8) = m / 8 by unfold wrap64; omega, show wrap64 (-(m / 8)) = -(m / 8) by unfold wrap64; omega]
  by_cases a : s > m / 8
  · rw [if_pos a, if_pos a, if_neg (by omega)]
    congr 1; unfold wrap64; omega
  · rw [if_neg a, if_neg a]
    by_cases b : s < -(m / 8)
    · rw [if_pos b, if_pos b]; congr 1; unfold wrap64; omega
    · rw [if_neg b, if_neg b]; congr 1; unfold wrap64; omega
theorem j0_gs (k : Nat) (m s : Int) :
    liveryref09_Goes.j0 (k + 2) m s = liveryref09_Goes.j1 (k + 1) (if m > 64 then 64 else m) s := by
  rw [show k + 2 = (k + 1) + 1 from rfl]
  have e : liveryref09_Goes.j0 (k + 1 + 1) m s = if m > 64 then (liveryref09_Goes.j1 (k + 1) 64 s) else (liveryref09_Goes.j1 (k + 1) m s) := by simp only [liveryref09_Goes.j0]
  rw [e]
  by_cases h : m > 64
  · rw [if_pos h, if_pos h]
  · rw [if_neg h, if_neg h]
theorem rgoes_gs (n s : Int) : liveryref09_Goes.f 4 n s = some (gs n s) := by
  unfold liveryref09_Goes.f
  have h : (if n < 0 then (liveryref09_Goes.j0 4 0 s) else (liveryref09_Goes.j0 4 n s)) = liveryref09_Goes.j0 4 (if n < 0 then 0 else n) s := by split <;> rfl
  rw [h]
  have e : (if (if n < 0 then 0 else n) > 64 then 64 else (if n < 0 then 0 else n)) = (if n < 0 then 0 else if n > 64 then 64 else n) := by
    (repeat' split) <;> omega
  rw [show (4 : Nat) = 2 + 2 from rfl, j0_gs 2 _ s, e, j1_gs 2 _ s (by (repeat' split) <;> omega) (by (repeat' split) <;> omega)]
  rfl
theorem TicksGoes : liverylaw09_TicksGoes.Pure := by
  intro a b _ _
  refine ⟨4, ?_⟩
  unfold liverylaw09_TicksGoes.f
  simp only [goes_gs, rgoes_gs, bound_bn, rbound_bn, lives_true, Option.bind_some, if_true]

end Go.Proofs.Ytiibkliaokkpdaa.Pure
