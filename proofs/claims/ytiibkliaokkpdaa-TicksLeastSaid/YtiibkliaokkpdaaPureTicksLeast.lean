/- Whatever the numbers (the first 40): the program's Least is the reference's. Conditions: none beyond that each number is an int. -/
import Derived.Test.YtiibkliaokkpdaaPTicksLeastx1
namespace Go.Proofs.Ytiibkliaokkpdaa.Pure
open Go.RowKit Go.Proofs.Ytiibkliaokkpdaa.PTicksLeast Go.Proofs.YtiibkliaokkpdaaW.PrintWords Go.Proofs.YtiibkliaokkpdaaW.PrintLast

def tk (a : Int) : Int := if a < 0 then 0 else if a > 1099511627776 then 1099511627776 else a
theorem tk_bd (a : Int) : 0 ≤ tk a ∧ tk a ≤ 1099511627776 := by unfold tk; (repeat' split) <;> omega
theorem tk_id {a : Int} (h : 0 ≤ a) (h2 : a ≤ 1099511627776) : tk a = a := by unfold tk; (repeat' split) <;> omega
theorem tick_tk (a : Int) : ticks_tick.f a = some (tk a) := by
  unfold ticks_tick.f ticks_held_int.f
  simp only [Option.bind_some, Option.some.injEq]
  unfold mx mn tk
  (repeat' split) <;> omega
theorem add_tk (a b : Int) : ticks_Add.f a b = some (tk (tk a + tk b)) := by
  have h1 := tk_bd a; have h2 := tk_bd b
  unfold ticks_Add.f
  simp only [tick_tk, Option.bind_some]
  rw [show wrap64 (tk a + tk b) = tk a + tk b by unfold wrap64; omega]
theorem over_tk (a b : Int) : ticks_Over.f a b = some (decide (tk a ≥ tk b ∨ tk a = 1099511627776)) := by
  unfold ticks_Over.f
  simp only [tick_tk, Option.bind_some]
  by_cases h : tk a ≥ tk b
  · rw [if_pos h]; simp [h]
  · rw [if_neg h]; congr 1; rw [Bool.eq_iff_iff]; simp [h]
theorem lives_true : liverylaw09_lives.f = some true := by decide +kernel

theorem rtick_tk (a : Int) : liveryref09_Tick.f a = some (tk a) := by
  unfold liveryref09_Tick.f tk
  (repeat' split) <;> first | rfl | omega

theorem both (l : List Int) (hl : l.length * 8 ≤ 140737488351232) (d : Nat) : ∀ (k : Nat) (i x : Int), 0 ≤ i → i ≤ l.length → (l.length : Int) - i = d → d < k →
    ∃ r, ticks_Least.l0 k x l (l.length : Int) i = some r ∧ liveryref09_Least.l0 k l x i = some r := by
  induction d with
  | zero =>
    intro k i x h0 h1 hd hk
    obtain ⟨k, rfl⟩ : ∃ m, k = m + 1 := ⟨k - 1, by omega⟩
    refine ⟨x, ?_, ?_⟩
    · simp only [ticks_Least.l0]; rw [if_neg (by omega)]
    · simp only [liveryref09_Least.l0]; rw [if_neg (by omega)]
  | succ d ih =>
    intro k i x h0 h1 hd hk
    obtain ⟨k, rfl⟩ : ∃ m, k = m + 1 := ⟨k - 1, by omega⟩
    have hlt : i < (l.length : Int) := by omega
    have hw : wrap64 (i + 1) = i + 1 := by unfold wrap64; omega
    obtain ⟨r, e1, e2⟩ := ih k (i + 1) (mn x (tk (rd l i))) (by omega) (by omega) (by omega) (by omega)
    refine ⟨r, ?_, ?_⟩
    · simp only [ticks_Least.l0]; rw [if_pos hlt, if_pos h0, if_pos hlt, tick_tk, hw]; simpa only [Option.bind_some] using e1
    · simp only [liveryref09_Least.l0]; rw [if_pos hlt, if_pos h0, rtick_tk, hw]; simp only [Option.bind_some]
      rw [← e2]; unfold mn; split <;> rfl
theorem same (l : List Int) (hl : l.length * 8 ≤ 140737488351232) (k : Nat) (hk : l.length < k) : ∃ r, ticks_Least.f k l = some r ∧ liveryref09_Least.f k l = some r :=
  both l hl l.length k 0 1099511627776 (by omega) (by omega) (by omega) hk
theorem TicksLeast : liverylaw09_TicksLeast.Pure := by
  intro l _ hl _
  refine ⟨l.length + 1, ?_⟩
  unfold liverylaw09_TicksLeast.f
  have h1 := List.length_take_le 40 l
  have h2 : (l.take 40).length ≤ l.length := by rw [List.length_take]; omega
  obtain ⟨r, e1, e2⟩ := same (l.take 40) (by omega) (l.length + 1) (by omega)
  obtain ⟨q, f1, f2⟩ := same l hl (l.length + 1) (by omega)
  split
  · rw [if_pos (by omega), e1]; simp only [Option.bind_some]; rw [e2]; simp only [Option.bind_some, if_true, lives_true]
  · rw [f1]; simp only [Option.bind_some]; rw [f2]; simp only [Option.bind_some, if_true, lives_true]

end Go.Proofs.Ytiibkliaokkpdaa.Pure
