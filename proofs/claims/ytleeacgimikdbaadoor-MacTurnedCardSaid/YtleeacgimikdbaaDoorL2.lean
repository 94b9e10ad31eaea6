/- The laws of the digest: Sums, Hex, HexApart. -/
import Derived.Test.YtleeacgimikdbaaDoorL1
namespace Go.Proofs.YtleeacgimikdbaaDoor
open Go.RowKit
attribute [local go_sem ↓] Go.wp_at_zero Go.wp_at_succ
theorem few_bs (A : Option Addr) (bs : List UInt8) (c : Nat) (w : World) (hc : bs.length ≤ c) (hm : c ≤ maxLen) :
    Calls Tryd.prog 14 #[.slice A bs.length c] w fun e w' => e = .returned (.slice A (bs.take 400).length c) ∧ w' = w := by
  rw [List.length_take, Nat.min_comm]
  exact few_any A bs.length c w hc hm
theorem take400 (bs : List UInt8) : (bs.take 400).length ≤ 1000000 := by rw [List.length_take]; omega
theorem Rd.drewN {w : World} {A : Option Addr} {xs : List Value} (h : Rd w A xs) (k : Nat) : Rd (w.drewN k) A xs := h
theorem Rd.takeB {w : World} {A : Option Addr} {bs : List UInt8} (h : Rd w A (bvals bs)) (n : Nat) : Rd w A (bvals (bs.take n)) := by
  rw [bvals_take]; exact h.take n
theorem sameB_self (a : List UInt8) : sameB a a = true := by unfold sameB; simp
theorem Below.drewN_ {B : Nat} {w w' : World} (h : Below B w w') (k : Nat) : Below B w (w'.drewN k) := ⟨h.os, h.tape, h.output, h.size, h.block⟩
theorem HasK.drewN {w : World} (h : HasK w) (k : Nat) : HasK (w.drewN k) := h
set_option maxRecDepth 100000 in
set_option maxHeartbeats 1000000 in
theorem shaSums_any (A : Option Addr) (c : Nat) (bs : List UInt8) (w : World) (hr : Rd w A (bvals bs)) (hc : bs.length ≤ c) (hm : c ≤ maxLen) (hk : HasK w) :
    Calls Tryd.prog 3 #[.slice A bs.length c] w fun e w' => e = .returned (.bool true) ∧ Below w.heap.size w w' := by
  have hL := take400 bs
  have hr2 := Lib.hid (hr.takeB 400)
  go_enter Tryd.func3, Tryd.ntmps3
  go_wp2_with fail
  refine (few_bs A bs c w hc hm).mono ?_
  rintro e w1 ⟨rfl, rfl⟩
  clear hc hr
  generalize bs.take 400 = xs at *
  go_wp2_with fail
  refine (sum_any A c xs w1 hr2.out hL hk).mono ?_
  rintro e w2 ⟨v2, rfl, own2, b2⟩
  obtain ⟨g2, c2, rfl, _, _, _⟩ := own_form own2 (by omega)
  have hr3 := Lib.hid (hr2.out.below b2)
  have B2 := Lib.hid b2
  have O2 := Lib.hid own2
  clear own2 b2
  go_wp2_with fail
  refine (rsum_any A c xs w2 hr3.out hL).mono ?_
  rintro e w3 ⟨v3, rfl, own3, b3⟩
  obtain ⟨g3, c3, rfl, _, _, _⟩ := own_form own3 (by omega)
  have B3 : Hid (Below w1.heap.size w1 w3) := B2.out.trans (b3.mono B2.out.size)
  have R2 : Hid (Rd w3 (some ⟨g2, 0, none⟩) (bvals (sha xs))) := (Rd.of_own O2.out).below b3
  have R3 : Hid (Rd w3 (some ⟨g3, 0, none⟩) (bvals (sha xs))) := Rd.of_own own3
  have hk3 := hk.below B3.out
  have hl : (sha xs).length = 32 := by have := own3.1; simpa [bvals_length] using this
  clear own3 b3 O2 B2 hr3 hr2
  generalize sha xs = ds at *
  rw [← hl]
  have HL := Lib.hid hl
  clear hl
  go_wp2_with fail
  refine (same_any (some ⟨g2, 0, none⟩) (some ⟨g3, 0, none⟩) c2 c3 ds ds w3 R2.out R3.out (by rw [HL.out]; omega) (by rw [HL.out]; omega)).mono ?_
  rintro e w4 ⟨rfl, k, rfl⟩
  rw [sameB_self]
  go_wp2_with fail
  refine (lives_any _ (hk3.drewN k)).mono ?_
  rintro e w5 ⟨rfl, b5⟩
  have B5 : Hid (Below w1.heap.size w1 w5) := (Below.drewN_ B3.out k).trans (b5.mono B3.out.size)
  go_wp2_with fail
  go_ret
  exact ⟨rfl, B5.out⟩

theorem dig_inj {m n : Nat} (hm : m < 16) (hn : n < 16) (h : dig m = dig n) : m = n := by
  have h' : ∀ a : Fin 16, ∀ b : Fin 16, dig a.val = dig b.val → a.val = b.val := by decide +kernel
  exact h' ⟨m, hm⟩ ⟨n, hn⟩ h
theorem hexOf_inj : ∀ a b : List UInt8, hexOf a = hexOf b → a = b
  | [], [], _ => rfl
  | [], _ :: _, h => by simp [hexOf] at h
  | _ :: _, [], h => by simp [hexOf] at h
  | x :: a, y :: b, h => by
    simp only [hexOf, List.flatMap_cons, List.cons_append, List.nil_append, List.cons.injEq] at h
    obtain ⟨h1, h2, h3⟩ := h
    have hx := u8_lt x
    have hy := u8_lt y
    have e1 : x.toNat / 16 = y.toNat / 16 := dig_inj (by omega) (by omega) h1
    have e2 : x.toNat % 16 = y.toNat % 16 := dig_inj (by omega) (by omega) h2
    have e : x = y := UInt8.toNat_inj.1 (by omega)
    rw [e, hexOf_inj a b h3]
theorem strOf_eq (t : TypeId) (a b : List UInt8) : binOp .eql t (strOf a) (strOf b) = pure (.bool (decide (a = b))) := by
  unfold strOf
  show (pure (Value.bool _) : Sem Value) = _
  congr 2
  rw [Bool.eq_iff_iff]
  simp
theorem strOf_guard (t : TypeId) (x y : Operand) (a b : List UInt8) : eqGuard .eql t x y (strOf a) (strOf b) = pure () := rfl
attribute [local go_sem] strOf_eq strOf_guard
set_option maxRecDepth 100000 in
set_option maxHeartbeats 1000000 in
theorem shaHex_any (A : Option Addr) (c : Nat) (bs : List UInt8) (w : World) (hr : Rd w A (bvals bs)) (hc : bs.length ≤ c) (hm : c ≤ maxLen) (hk : HasK w) :
    Calls Tryd.prog 5 #[.slice A bs.length c] w fun e w' => e = .returned (.bool true) ∧ Below w.heap.size w w' := by
  have hL := take400 bs
  have hr2 := Lib.hid (hr.takeB 400)
  go_enter Tryd.func5, Tryd.ntmps5
  go_wp2_with fail
  refine (few_bs A bs c w hc hm).mono ?_
  rintro e w1 ⟨rfl, rfl⟩
  clear hc hr
  generalize bs.take 400 = xs at *
  go_wp2_with fail
  refine (hex_any A c xs w1 hr2.out hL).mono ?_
  rintro e w2 ⟨rfl, b2⟩
  have hr3 := Lib.hid (hr2.out.below b2)
  have B2 := Lib.hid b2
  clear b2
  go_wp2_with fail
  refine (rhex_any A c xs w2 hr3.out hL).mono ?_
  rintro e w3 ⟨rfl, b3⟩
  have B3 : Hid (Below w1.heap.size w1 w3) := B2.out.trans (b3.mono B2.out.size)
  have hk3 := hk.below B3.out
  clear b3 B2 hr3 hr2
  generalize hexOf xs = l at *
  go_wp2_with fail
  refine (lives_any _ hk3).mono ?_
  rintro e w5 ⟨rfl, b5⟩
  have B5 : Hid (Below w1.heap.size w1 w5) := B3.out.trans (b5.mono B3.out.size)
  go_wp2_with fail
  go_ret
  exact ⟨rfl, B5.out⟩
set_option maxRecDepth 100000 in
set_option maxHeartbeats 1000000 in
theorem shaHexApart_any (A D : Option Addr) (c d : Nat) (us bs : List UInt8) (w : World) (ha : Rd w A (bvals us)) (hac : us.length ≤ c) (ham : c ≤ maxLen) (hb : Rd w D (bvals bs)) (hbc : bs.length ≤ d) (hbm : d ≤ maxLen) (hk : HasK w) :
    Calls Tryd.prog 6 #[.slice A us.length c, .slice D bs.length d] w fun e w' => e = .returned (.bool true) ∧ Below w.heap.size w w' := by
  have hLa := take400 us
  have hLb := take400 bs
  have ra := Lib.hid (ha.takeB 400)
  have rb := Lib.hid (hb.takeB 400)
  go_enter Tryd.func6, Tryd.ntmps6
  go_wp2_with fail
  refine (few_bs A us c w hac ham).mono ?_
  rintro e w1 ⟨rfl, rfl⟩
  clear ha hac
  generalize us.take 400 = xs at *
  go_wp2_with fail
  refine (few_bs D bs d w1 hbc hbm).mono ?_
  rintro e w2 ⟨rfl, rfl⟩
  clear hb hbc
  generalize bs.take 400 = ys at *
  go_wp2_with fail
  refine (same_any A D c d xs ys w2 ra.out rb.out hLa hLb).mono ?_
  rintro e w3 ⟨rfl, k, rfl⟩
  have ra3 := Lib.hid (ra.out.drewN k)
  have rb3 := Lib.hid (rb.out.drewN k)
  have B3 := Lib.hid (Below.drewN_ (Below.refl w2.heap.size w2) k)
  have hk3 := hk.drewN k
  clear hk ra rb
  generalize hW : w2.drewN k = w3 at *
  clear hW
  go_wp2_with fail
  refine (hex_any A c xs w3 ra3.out hLa).mono ?_
  rintro e w4 ⟨rfl, b4⟩
  have rb4 := Lib.hid (rb3.out.below b4)
  have B4 : Hid (Below w2.heap.size w2 w4) := B3.out.trans (b4.mono B3.out.size)
  have hk4 := hk3.below b4
  clear b4 B3 ra3 rb3 hk3
  go_wp2_with fail
  refine (hex_any D d ys w4 rb4.out hLb).mono ?_
  rintro e w5 ⟨rfl, b5⟩
  have B5 : Hid (Below w2.heap.size w2 w5) := B4.out.trans (b5.mono B4.out.size)
  have hk5 := hk4.below b5
  clear b5 B4 rb4 hk4
  have hs : decide (hexOf xs = hexOf ys) = sameB xs ys := by
    unfold sameB
    rw [decide_eq_decide]
    exact ⟨hexOf_inj xs ys, fun h => by rw [h]⟩
  generalize hexOf xs = lx at *
  generalize hexOf ys = ly at *
  go_wp2_with fail
  refine (lives_any _ hk5).mono ?_
  rintro e w6 ⟨rfl, b6⟩
  have B6 : Hid (Below w2.heap.size w2 w6) := B5.out.trans (b6.mono B5.out.size)
  go_wp2_with fail
  go_ret
  exact ⟨rfl, B6.out⟩
end Go.Proofs.YtleeacgimikdbaaDoor
