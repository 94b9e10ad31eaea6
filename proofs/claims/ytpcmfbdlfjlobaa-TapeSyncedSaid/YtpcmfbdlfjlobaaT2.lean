/- done: both sides behind a unit; copied: both sides in memory of their own. -/
import Derived.Test.YtpcmfbdlfjlobaaT1
namespace Go.Proofs.Ytpcmfbdlfjlobaa
open Go.RowKit
set_option linter.unusedVariables false
attribute [local go_sem ↓] Go.wp_at_zero Go.wp_at_succ
def Doned (v0 v1 : Value) (s' : Sd) (w : World) (e : Ending) (w' : World) : Prop := ∃ v0' v1', e = .returned (.agg #[v0', v1']) ∧ Pr w' v0' v1' s' ∧ Kept (blk v0 v1) w w' ∧ Grew (blk v0 v1) (blk v0' v1') w
theorem ob_eq (A : Option Addr) (n c n' c' : Nat) : (Value.slice A n c).ownBlock = (Value.slice A n' c').ownBlock := by cases A <;> rfl
set_option maxRecDepth 100000 in
set_option maxHeartbeats 4000000 in
theorem done_cut (o : Bool) (k : Nat) (b : UInt8) (v0 v1 : Value) (s : Sd) (w : World) (h : Pr w v0 v1 s) (hk : k ≤ (s.get o).length) (hs : s.ok) :
    Calls Try.prog 36 #[.agg #[v0, v1], .agg (Un.cells ⟨o, some k, b⟩).toArray] w (Doned v0 v1 (stepS s ⟨o, some k, b⟩) w) := by
  obtain ⟨A0, c0, rfl, hl0, hm0⟩ := h.o0.slice
  obtain ⟨A1, c1, rfl, hl1, hm1⟩ := h.o1.slice
  have hs0 := hs.1
  have hs1 := hs.2
  have hk0 : (0 : Int) ≤ (k : Int) := by omega
  cases o
  · have hk' : k ≤ s.a.length := hk
    have hkc : (k : Int) ≤ (c0 : Int) := by omega
    have hCL := Lib.hid (fun wx => (clip_any A0 k c0 wx (by omega) hm0).mono fun e w' ⟨h1, h2⟩ => (⟨h1, h2.symm⟩ : e = _ ∧ w' = wx))
    have HFIN : Hid (∀ w', Below w.heap.size w w' → Doned (.slice A0 s.a.length c0) (.slice A1 s.b.length c1) (stepS s ⟨false, some k, b⟩) w (.returned (.agg #[(.slice A0 k k), (.slice A1 s.b.length c1)])) w') := fun w' hw => by
      have h' := h.below hw
      have hh := h'.o0.head hk'
      have hlen : (s.a.take k).length = k := by rw [List.length_take]; omega
      refine ⟨_, _, rfl, ⟨?_, h'.o1, fun b hb => h.ap b (by rw [← hb]; exact ob_eq _ _ _ _ _)⟩, Kept.of_below _ hw, fun b hb => .inl (hb.imp (fun e => by rw [← e]; exact ob_eq _ _ _ _ _) id)⟩
      show GOwn w' 5 1 (.slice A0 k k) (s.a.take k).length (bvals (s.a.take k))
      rw [hlen, bvals_take]
      simpa using hh
    rw [show (Un.cells ⟨false, some k, b⟩).toArray = #[.int .i64 0, .int .i64 (k : Int), .int .u8 (b.toNat : Int)] from rfl]
    clear h hs
    generalize s.a.length = m0 at *
    generalize s.b.length = m1 at *
    go_enter Try.func36, Try.ntmps36
    go_wp2_with fail
    refine still_tail 11 (by kernel_rfl) (by kernel_rfl) ?_
    repeat (first | still_step | still_call (hCL.out _))
    refine wpStill_nil ?_
    go_wp2
    exact bodyPost_ret (v := .agg #[(.slice A0 k k), (.slice A1 m1 c1)]) (by simp [results, Try.results36, go_sem]) rfl (HFIN.out _ (by repeat (first | exact Below.refl _ _ | exact Nat.le_refl _ | refine Below.setCell ?_ (by simp <;> omega) _ | refine Below.alloc ?_ (by simp <;> omega) _ | refine Below.drewN_ (k := 1) ?_)))
  · have hk' : k ≤ s.b.length := hk
    have hkc : (k : Int) ≤ (c1 : Int) := by omega
    have hCL := Lib.hid (fun wx => (clip_any A1 k c1 wx (by omega) hm1).mono fun e w' ⟨h1, h2⟩ => (⟨h1, h2.symm⟩ : e = _ ∧ w' = wx))
    have HFIN : Hid (∀ w', Below w.heap.size w w' → Doned (.slice A0 s.a.length c0) (.slice A1 s.b.length c1) (stepS s ⟨true, some k, b⟩) w (.returned (.agg #[(.slice A0 s.a.length c0), (.slice A1 k k)])) w') := fun w' hw => by
      have h' := h.below hw
      have hh := h'.o1.head hk'
      have hlen : (s.b.take k).length = k := by rw [List.length_take]; omega
      refine ⟨_, _, rfl, ⟨h'.o0, ?_, fun b hb e => h.ap b hb (by rw [← e]; exact ob_eq _ _ _ _ _)⟩, Kept.of_below _ hw, fun b hb => .inl (hb.imp id (fun e => by rw [← e]; exact ob_eq _ _ _ _ _))⟩
      show GOwn w' 5 1 (.slice A1 k k) (s.b.take k).length (bvals (s.b.take k))
      rw [hlen, bvals_take]
      simpa using hh
    rw [show (Un.cells ⟨true, some k, b⟩).toArray = #[.int .i64 1, .int .i64 (k : Int), .int .u8 (b.toNat : Int)] from rfl]
    clear h hs
    generalize s.a.length = m0 at *
    generalize s.b.length = m1 at *
    go_enter Try.func36, Try.ntmps36
    go_wp2_with fail
    refine still_tail 11 (by kernel_rfl) (by kernel_rfl) ?_
    repeat (first | still_step | still_call (hCL.out _))
    refine wpStill_nil ?_
    go_wp2
    exact bodyPost_ret (v := .agg #[(.slice A0 m0 c0), (.slice A1 k k)]) (by simp [results, Try.results36, go_sem]) rfl (HFIN.out _ (by repeat (first | exact Below.refl _ _ | exact Nat.le_refl _ | refine Below.setCell ?_ (by simp <;> omega) _ | refine Below.alloc ?_ (by simp <;> omega) _ | refine Below.drewN_ (k := 1) ?_)))
end Go.Proofs.Ytpcmfbdlfjlobaa
