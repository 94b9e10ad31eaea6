/- Whether bytes, whether numbers are the same. -/
import Derived.Test.YtpcmfbdlfjlobaaT1
import Derived.StillTailTactics
import Derived.Deep.QuietTactic
import Derived.BigQuiet
namespace Go.Proofs.Ytpcmfbdlfjlobaa
open Go.RowKit
attribute [local go_sem ↓] Go.wp_at_zero Go.wp_at_succ
def sameB (a b : List UInt8) : Bool := decide (a = b)
theorem sameB_take (a b : List UInt8) (h : a.length = b.length) (k : Nat) (heq : ∀ j, j < k → a.getD j 0 = b.getD j 0) (he : k = a.length) : sameB a b = true := by
  unfold sameB
  rw [decide_eq_true_eq]
  apply List.ext_getElem h
  intro j h1 h2
  have := heq j (by omega)
  rw [List.getD_eq_getElem?_getD, List.getD_eq_getElem?_getD, List.getElem?_eq_getElem h1, List.getElem?_eq_getElem h2] at this
  exact this
theorem sameB_ne (a b : List UInt8) (k : Nat) (h : a.getD k 0 ≠ b.getD k 0) : sameB a b = false := by
  unfold sameB
  rw [decide_eq_false_iff_not]
  rintro rfl
  exact h rfl
theorem sameB_len (a b : List UInt8) (h : a.length ≠ b.length) : sameB a b = false := by
  unfold sameB
  rw [decide_eq_false_iff_not]
  rintro rfl
  exact h rfl
set_option maxRecDepth 100000 in
set_option maxHeartbeats 1000000 in
theorem same_any (A B : Option Addr) (c d : Nat) (xs ys : List UInt8) (w : World) (ha : Rd w A (bvals xs)) (hb : Rd w B (bvals ys)) (hn : xs.length ≤ 1000000) (_hm : ys.length ≤ 1000000) :
    Calls Try.prog 21 #[.slice A xs.length c, .slice B ys.length d] w fun e w' => e = .returned (.bool (sameB xs ys)) ∧ ∃ k, w' = w.drewN k := by
  by_cases hlen : xs.length = ys.length
  · have HL := Lib.hid hlen
    rw [← hlen]
    have hneq : ((xs.length : Int) != (xs.length : Int)) = false := by simp
    generalize hN : xs.length = n at *
    have HN := Lib.hid hN
    clear hN hlen _hm
    go_enter Try.func21, Try.ntmps21
    go_wp2_with fail
    clear hneq
    go_loopw [5] (fun i wr => ∃ k q : Nat, k ≤ n ∧ i = .int .i64 (k : Int) ∧ (∀ j, j < k → xs.getD j 0 = ys.getD j 0) ∧ wr = w.drewN q) (fun i _ => n - (intOf i).toNat)
    case atStart => exact ⟨0, 0, by omega, rfl, fun j hj => by omega, rfl⟩
    case round =>
      obtain ⟨k, q, hk8, rfl, heq, rfl⟩ := hrel
      have HE := Lib.hid heq
      clear heq
      by_cases hk : k < n
      · obtain ⟨b1, o1, hA, hc1⟩ := ha.byte (j := k) (by rw [HN.out]; exact hk)
        obtain ⟨b2, o2, hB, hc2⟩ := hb.byte (j := k) (by have := HL.out; omega)
        subst hA hB
        have e4 : (k : Int) < (n : Int) := by omega
        by_cases hx : xs.getD k 0 = ys.getD k 0
        · have HX := Lib.hid hx
          rw [← hx] at hc2
          clear hx
          generalize xs.getD k 0 = x at hc1 hc2
          have hne : ((x.toNat : Int) != (x.toNat : Int)) = false := by simp
          go_wp2_with fail
          refine still_lit (by kernel_rfl) (by kernel_rfl) ?_
          repeat still_step
          refine wpStill_nil ?_
          go_wp2
          go_roundw
          case rel =>
            refine ⟨k + 1, q + 1, by omega, by go_num, fun j hj => ?_, rfl⟩
            rcases Nat.lt_or_ge j k with h | h
            · exact HE.out j h
            · obtain rfl : j = k := by omega
              exact HX.out
          case measure => simp [intOf]; omega
        · have hS := Lib.hid (sameB_ne xs ys k hx)
          have hne : (((xs.getD k 0).toNat : Int) != ((ys.getD k 0).toNat : Int)) = true := by
            rw [bne_iff_ne]
            exact fun h => hx (bval_inj h)
          clear hx
          generalize xs.getD k 0 = x at hc1 hne
          generalize ys.getD k 0 = y at hc2 hne
          go_wp2_with fail
          refine still_lit (by kernel_rfl) (by kernel_rfl) ?_
          repeat still_step
          refine wpStill_nil ?_
          go_wp2
          go_ret
          exact ⟨by rw [hS.out]; rfl, q + 1, rfl⟩
      · obtain rfl : k = n := by omega
        have hS := Lib.hid (sameB_take xs ys (by rw [HN.out]; exact HL.out) k HE.out HN.out.symm)
        go_wp2
        go_ret
        exact ⟨by rw [hS.out]; rfl, q, rfl⟩
  · have hS := Lib.hid (sameB_len xs ys hlen)
    have hne : ((xs.length : Int) != (ys.length : Int)) = true := by
      rw [bne_iff_ne]
      omega
    clear hlen ha hb
    go_enter Try.func21, Try.ntmps21
    go_wp2
    go_ret
    exact ⟨by rw [hS.out]; rfl, 0, rfl⟩
theorem sameB_self (a : List UInt8) : sameB a a = true := by unfold sameB; simp
end Go.Proofs.Ytpcmfbdlfjlobaa
