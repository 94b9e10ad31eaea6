/- The laws of tags: Keys. -/
import Derived.Test.YtleeacgimikdbaaDoorM8
namespace Go.Proofs.YtleeacgimikdbaaDoor
open Go.RowKit
attribute [local go_sem ↓] Go.wp_at_zero Go.wp_at_succ
set_option maxRecDepth 100000 in
set_option maxHeartbeats 1000000 in
theorem macKeys_any (A : Option Addr) (c : Nat) (kb : List UInt8) (s : ByteArray) (n : Int) (w : World) (hr : Rd w A (bvals kb)) (hc : kb.length ≤ c) (hm : c ≤ maxLen) (hs : s.size ≤ maxLen) (hk : HasK w) :
    Calls Tryd.prog 13 #[.slice A kb.length c, .string s, .int .i64 n] w fun e w' => e = .returned (.bool true) ∧ Below w.heap.size w w' := by
  unfold maxLen at hs
  have HK := Lib.hid hk
  have hkl := take150 kb
  have HR := Lib.hid (hr.takeB ((150 : Int).toNat))
  clear hk hr
  by_cases h40 : 40 < s.size
  have h40' : (40 : Int) < (s.size : Int) := by omega
  go_enter Tryd.func13, Tryd.ntmps13
  go_wp2_with fail
  refine (few2_bs A kb c 150 w hc hm (by decide) (by decide)).mono ?_
  rintro e w1 ⟨rfl, rfl⟩
  clear hc
  generalize kb.take ((150 : Int).toNat) = key at *
  go_wp2_with fail
  have hs2 : (s.extract 0 40).size ≤ 1000 := by rw [ByteArray.size_extract]; omega
  generalize s.extract 0 40 = s2 at *
  rotate_left
  have h40' : decide (40 < (s.size : Int)) = false := by simp; omega
  go_enter Tryd.func13, Tryd.ntmps13
  go_wp2_with fail
  refine (few2_bs A kb c 150 w hc hm (by decide) (by decide)).mono ?_
  rintro e w1 ⟨rfl, rfl⟩
  clear hc
  generalize kb.take ((150 : Int).toNat) = key at *
  go_wp2_with fail
  have hs2 : s.size ≤ 1000 := by omega
  obtain ⟨s2, hse⟩ : ∃ s2, s2 = s := ⟨s, rfl⟩
  rw [← hse] at hs2 ⊢
  clear hse
  rotate_left
  all_goals
    clear h40 h40'
    refine (key_any A c key s2 n w HR.out hkl hs2 HK.out).mono ?_
    rintro e w3 ⟨v3, rfl, own3, b3⟩
    obtain ⟨A3, c3, rfl, _, _⟩ := own_slice own3
    have HB3 : Hid (Below w.heap.size w w3) := b3
    have HT3 : Hid (Rd w3 A3 (bvals (keyOf key s2.data.toList n))) := Rd.of_own own3
    have HR3 : Hid (Rd w3 A (bvals key)) := HR.out.below b3
    clear own3 b3 HR
    go_wp2_with fail
    refine (rkey_any A c key s2 n w3 HR3.out hkl hs2).mono ?_
    rintro e w5 ⟨v5, rfl, own5, b5⟩
    obtain ⟨A5, c5, rfl, _, _⟩ := own_slice own5
    have HB5 : Hid (Below w.heap.size w w5) := HB3.out.trans (b5.mono HB3.out.size)
    have HU5 : Hid (Rd w5 A5 (bvals (keyOf key s2.data.toList n))) := Rd.of_own own5
    have HT5 : Hid (Rd w5 A3 (bvals (keyOf key s2.data.toList n))) := HT3.out.below b5
    have hl : (keyOf key s2.data.toList n).length = 32 := tagOf_length key _
    clear own5 b5 HB3 HR3 HT3
    generalize keyOf key s2.data.toList n = T at *
    rw [← hl]
    have HL := Lib.hid hl
    clear hl
    go_wp2_with fail
    refine (same_any A3 A5 c3 c5 T T w5 HT5.out HU5.out (by rw [HL.out]; omega) (by rw [HL.out]; omega)).mono ?_
    rintro e w6 ⟨rfl, q, rfl⟩
    rw [sameB_self]
    have HB6 := Lib.hid (Below.drewN_ HB5.out q)
    go_wp2_with fail
    refine (lives2_any _ (HK.out.below HB6.out)).mono ?_
    rintro e w7 ⟨rfl, b7⟩
    have HB7 : Hid (Below w.heap.size w w7) := HB6.out.trans (b7.mono HB6.out.size)
    go_wp2_with fail
    go_ret
    exact ⟨rfl, HB7.out⟩
end Go.Proofs.YtleeacgimikdbaaDoor
