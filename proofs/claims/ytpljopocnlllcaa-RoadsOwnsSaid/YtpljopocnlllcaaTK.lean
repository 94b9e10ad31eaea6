/- Contracts of the ticks, of the program and of the reference. -/
import Derived.Test.YtpljopocnlllcaaProg
import Derived.WalkKit
import Derived.WalkSpells
import Derived.WalkLawsBesides
import Derived.Lib.Hide
import Derived.IntWalk
import Derived.Outline
namespace Go.Proofs.Ytpljopocnlllcaa
open Go.RowKit
def clampI (x lo hi : Int) : Int := max lo (min x hi)
def tickF (n : Int) : Int := clampI n 0 1099511627776
def goesF (n s : Int) : Int := clampI n 0 64 + clampI s (-(clampI n 0 64 / 8)) (clampI n 0 64 / 8)
def addF (a b : Int) : Int := tickF (tickF a + tickF b)
def boundF (n : Int) : Int := (tickF n * 8 + 6) / 7
theorem max2_i (k k' : IntKind) (x y : Int) : Builtin.max2 (.int k x) (.int k' y) = pure (.int k (max x y)) := by
  simp only [Builtin.max2, gt_iff_lt]
  congr 2
  split <;> omega
theorem min2_i (k k' : IntKind) (x y : Int) : Builtin.min2 (.int k x) (.int k' y) = pure (.int k (min x y)) := by
  simp only [Builtin.min2]
  congr 2
  split <;> omega
theorem max_2 (ats : Array TypeId) (ty : TypeId) (a b : Value) : Builtin.max_ ats ty #[a, b] = (Builtin.max2 a b >>= fun s => pure s) := by simp only [Builtin.max_, List.foldlM_cons, List.foldlM_nil]
theorem min_2 (ats : Array TypeId) (ty : TypeId) (a b : Value) : Builtin.min_ ats ty #[a, b] = (Builtin.min2 a b >>= fun s => pure s) := by simp only [Builtin.min_, List.foldlM_cons, List.foldlM_nil]
theorem ret_int {k : IntKind} {a b : Int} (h : a = b) : Ending.returned (.int k a) = .returned (.int k b) := by rw [h]
theorem tickF_bd (n : Int) : 0 ≤ tickF n ∧ tickF n ≤ 1099511627776 := by unfold tickF clampI; omega
theorem goesF_bd (n s : Int) : 0 ≤ goesF n s ∧ goesF n s ≤ 72 := by unfold goesF clampI; omega
theorem addF_bd (a b : Int) : 0 ≤ addF a b ∧ addF a b ≤ 1099511627776 := by unfold addF; exact tickF_bd _
theorem boundF_bd (n : Int) : 0 ≤ boundF n ∧ boundF n ≤ 1300000000000 := by have := tickF_bd n; unfold boundF; omega
attribute [local go_sem] max2_i min2_i max_2 min_2
theorem held_any (x lo hi : Int) (w : World) : Calls Try.prog 37 #[.int .i64 x, .int .i64 lo, .int .i64 hi] w fun e w' => e = .returned (.int .i64 (clampI x lo hi)) ∧ w = w' := by
  go_enter Try.func37, Try.ntmps37
  go_wp2
  go_ret
  exact ⟨rfl, rfl⟩
theorem tick_any (n : Int) (w : World) : Calls Try.prog 38 #[.int .i64 n] w fun e w' => e = .returned (.int .i64 (tickF n)) ∧ w = w' := by
  go_enter Try.func38, Try.ntmps38
  go_wp2_with (go_at_call 37; refine (held_any _ _ _ _).mono ?_; rintro e w' ⟨rfl, rfl⟩)
  go_ret
  exact ⟨rfl, rfl⟩
theorem goes_any (n s : Int) (w : World) : Calls Try.prog 29 #[.int .i64 n, .int .i64 s] w fun e w' => e = .returned (.int .i64 (goesF n s)) ∧ w = w' := by
  have hb : 0 ≤ clampI n 0 64 ∧ clampI n 0 64 ≤ 64 := by unfold clampI; omega
  have hf : Hid (goesF n s = clampI n 0 64 + clampI s (-(clampI n 0 64 / 8)) (clampI n 0 64 / 8)) := rfl
  obtain ⟨hb0, hb1⟩ := hb
  go_enter Try.func29, Try.ntmps29
  go_wp2_with fail
  refine (held_any _ _ _ _).mono ?_
  rintro e w' ⟨rfl, rfl⟩
  generalize clampI n 0 64 = m at *
  go_wp2_with fail
  refine (held_any _ _ _ _).mono ?_
  rintro e w' ⟨rfl, rfl⟩
  have hc : -8 ≤ clampI s (-(m / 8)) (m / 8) ∧ clampI s (-(m / 8)) (m / 8) ≤ 8 := by unfold clampI; omega
  obtain ⟨hc0, hc1⟩ := hc
  generalize clampI s (-(m / 8)) (m / 8) = q at *
  go_wp2_with fail
  go_ret
  rw [hf.out]
  exact ⟨rfl, rfl⟩
theorem add_any (a b : Int) (w : World) : Calls Try.prog 30 #[.int .i64 a, .int .i64 b] w fun e w' => e = .returned (.int .i64 (addF a b)) ∧ w = w' := by
  have ha := tickF_bd a
  have hb := tickF_bd b
  have hf : Hid (addF a b = tickF (tickF a + tickF b)) := rfl
  obtain ⟨ha0, ha1⟩ := ha
  obtain ⟨hb0, hb1⟩ := hb
  go_enter Try.func30, Try.ntmps30
  go_wp2_with fail
  refine (tick_any _ _).mono ?_
  rintro e w' ⟨rfl, rfl⟩
  go_wp2_with fail
  refine (tick_any _ _).mono ?_
  rintro e w' ⟨rfl, rfl⟩
  generalize tickF a = x at *
  generalize tickF b = y at *
  go_wp2_with fail
  refine (tick_any _ _).mono ?_
  rintro e w' ⟨rfl, rfl⟩
  go_wp2_with fail
  go_ret
  rw [hf.out]
  exact ⟨rfl, rfl⟩
end Go.Proofs.Ytpljopocnlllcaa
