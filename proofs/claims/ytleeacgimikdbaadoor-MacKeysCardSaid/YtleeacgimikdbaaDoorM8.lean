/- The laws of tags: Tags, Keys. -/
import Derived.Test.YtleeacgimikdbaaDoorM7
namespace Go.Proofs.YtleeacgimikdbaaDoor
open Go.RowKit
attribute [local go_sem ↓] Go.wp_at_zero Go.wp_at_succ
theorem take150 (bs : List UInt8) : (bs.take ((150 : Int).toNat)).length ≤ 1000 := by rw [List.length_take]; have : (150 : Int).toNat = 150 := rfl; omega
theorem Rps.of_own {w w' : World} {v : Value} {n : Nat} {ps : List Pt} {A : Option Addr} {c m : Nat} (h : w'.ownsRow w.heap.size 22 1 v n (pvals ps)) (hv : v = .slice A m c) (he : ∀ p ∈ ps, p.ok w') : Rps w' A ps := by
  subst hv
  refine ⟨?_, he⟩
  rcases h.2 with ⟨h1, h2⟩ | ⟨g, cap, cur, h1, h2⟩
  · left
    subst h2
    have := h.1
    exact List.eq_nil_of_length_eq_zero (by omega)
  · have hm : n = m := by injection h1 with _ h4; exact h4.symm
    subst hm
    exact Rd.of_own h
set_option maxRecDepth 100000 in
set_option maxHeartbeats 1000000 in
theorem macTags_any (A P : Option Addr) (c pc : Nat) (kb : List UInt8) (ps : List Pt) (w : World) (hr : Rd w A (bvals kb)) (hc : kb.length ≤ c) (hm : c ≤ maxLen) (hp : Rps w P ps) (hpl : ps.length ≤ maxLen) (hk : HasK w) :
    Calls Tryd.prog 8 #[.slice A kb.length c, .slice P ps.length pc] w fun e w' => e = .returned (.bool true) ∧ Below w.heap.size w w' := by
  have HP := Lib.hid hp
  have HK := Lib.hid hk
  have hkl := take150 kb
  have HR := Lib.hid (hr.takeB ((150 : Int).toNat))
  clear hp hk hr
  go_enter Tryd.func8, Tryd.ntmps8
  go_wp2_with fail
  refine (few2_bs A kb c 150 w hc hm (by decide) (by decide)).mono ?_
  rintro e w1 ⟨rfl, rfl⟩
  clear hc
  generalize kb.take ((150 : Int).toNat) = key at *
  go_wp2_with fail
  refine (cut_any P pc ps w HP.out hpl).mono ?_
  rintro e w2 ⟨v2, rfl, own2, b2⟩
  obtain ⟨A2, c2, hv2, _, _⟩ := own_slice own2
  have HQ : Hid (Rps w2 A2 (cutAll ps)) := Rps.of_own own2 hv2 (cutAll_ok fun p hp => (HP.out.each p hp).below b2)
  have hql := cutAll_length ps
  have hqj := cutAll_joined ps
  subst hv2
  have HB2 := Lib.hid b2
  have HR2 : Hid (Rd w2 A (bvals key)) := HR.out.below b2
  clear own2 b2 HP HR hpl
  generalize cutAll ps = qs at *
  go_wp2_with fail
  refine (tag_any A A2 c c2 key qs w2 HR2.out hkl HQ.out (by omega) (by omega) (HK.out.below HB2.out)).mono ?_
  rintro e w3 ⟨v3, rfl, own3, b3⟩
  obtain ⟨A3, c3, rfl, _, _⟩ := own_slice own3
  have HB3 : Hid (Below w.heap.size w w3) := HB2.out.trans (b3.mono HB2.out.size)
  have HT3 : Hid (Rd w3 A3 (bvals (tagOf key (joined qs)))) := Rd.of_own own3
  have HR3 : Hid (Rd w3 A (bvals key)) := HR2.out.below b3
  have HQ3 : Hid (Rps w3 A2 qs) := HQ.out.below b3
  clear own3 b3 HB2 HR2 HQ
  go_wp2_with fail
  refine (joined_any A2 c2 qs w3 HQ3.out (by omega) (by omega)).mono ?_
  rintro e w4 ⟨v4, rfl, own4, b4⟩
  obtain ⟨A4, c4, rfl, _, _⟩ := own_slice own4
  have HB4 : Hid (Below w.heap.size w w4) := HB3.out.trans (b4.mono HB3.out.size)
  have HJ4 : Hid (Rd w4 A4 (bvals (joined qs))) := Rd.of_own own4
  have HR4 : Hid (Rd w4 A (bvals key)) := HR3.out.below b4
  have HT4 : Hid (Rd w4 A3 (bvals (tagOf key (joined qs)))) := HT3.out.below b4
  clear own4 b4 HB3 HR3 HQ3 HT3
  go_wp2_with fail
  refine (rtag_any A A4 c c4 key (joined qs) w4 HR4.out hkl HJ4.out (by omega)).mono ?_
  rintro e w5 ⟨v5, rfl, own5, b5⟩
  obtain ⟨A5, c5, rfl, _, _⟩ := own_slice own5
  have HB5 : Hid (Below w.heap.size w w5) := HB4.out.trans (b5.mono HB4.out.size)
  have HU5 : Hid (Rd w5 A5 (bvals (tagOf key (joined qs)))) := Rd.of_own own5
  have HT5 : Hid (Rd w5 A3 (bvals (tagOf key (joined qs)))) := HT4.out.below b5
  have hl := tagOf_length key (joined qs)
  clear own5 b5 HB4 HR4 HT4 HJ4
  generalize tagOf key (joined qs) = T at *
  rw [← hl]
  have HL := Lib.hid hl
  clear hl
  go_wp2_with fail
  refine (same_any A3 A5 c3 c5 T T w5 HT5.out HU5.out (by rw [HL.out]; omega) (by rw [HL.out]; omega)).mono ?_
  rintro e w6 ⟨rfl, q, rfl⟩
  rw [sameB_self]
  have HB6 := Lib.hid (Below.drewN_ HB5.out q)
  go_wp2_with fail
  refine (lives2_any _ (HK.out.below HB6.out)).mono ?_
  rintro e w7 ⟨rfl, b7⟩
  have HB7 : Hid (Below w.heap.size w w7) := HB6.out.trans (b7.mono HB6.out.size)
  go_wp2_with fail
  go_ret
  exact ⟨rfl, HB7.out⟩
end Go.Proofs.YtleeacgimikdbaaDoor
