/- The laws of tags: Right, Stays. -/
import Derived.Test.YtleeacgimikdbaaDoorM8
namespace Go.Proofs.YtleeacgimikdbaaDoor
open Go.RowKit
attribute [local go_sem ↓] Go.wp_at_zero Go.wp_at_succ
theorem take40 (bs : List UInt8) : (bs.take ((40 : Int).toNat)).length ≤ 1000 := by rw [List.length_take]; have : (40 : Int).toNat = 40 := rfl; omega
set_option maxRecDepth 100000 in
set_option maxHeartbeats 1000000 in
theorem macRight_any (A T P : Option Addr) (c tc pc : Nat) (kb tb : List UInt8) (ps : List Pt) (w : World) (hr : Rd w A (bvals kb)) (hc : kb.length ≤ c) (hm : c ≤ maxLen) (ht : Rd w T (bvals tb)) (htc : tb.length ≤ tc) (htm : tc ≤ maxLen) (hp : Rps w P ps) (hpl : ps.length ≤ maxLen) (hk : HasK w) :
    Calls Tryd.prog 9 #[.slice A kb.length c, .slice T tb.length tc, .slice P ps.length pc] w fun e w' => e = .returned (.bool true) ∧ Below w.heap.size w w' := by
  have HP := Lib.hid hp
  have HK := Lib.hid hk
  have hkl := take150 kb
  have htl := take40 tb
  have HR := Lib.hid (hr.takeB ((150 : Int).toNat))
  have HT := Lib.hid (ht.takeB ((40 : Int).toNat))
  clear hp hk hr ht
  go_enter Tryd.func9, Tryd.ntmps9
  go_wp2_with fail
  refine (few2_bs A kb c 150 w hc hm (by decide) (by decide)).mono ?_
  rintro e w1 ⟨rfl, rfl⟩
  clear hc
  generalize kb.take ((150 : Int).toNat) = key at *
  go_wp2_with fail
  refine (few2_bs T tb tc 40 w htc htm (by decide) (by decide)).mono ?_
  rintro e w1 ⟨rfl, rfl⟩
  clear htc
  generalize tb.take ((40 : Int).toNat) = tag at *
  go_wp2_with fail
  refine (cut_any P pc ps w HP.out hpl).mono ?_
  rintro e w2 ⟨v2, rfl, own2, b2⟩
  obtain ⟨A2, c2, hv2, _, _⟩ := own_slice own2
  have HQ : Hid (Rps w2 A2 (cutAll ps)) := Rps.of_own own2 hv2 (cutAll_ok fun p hp => (HP.out.each p hp).below b2)
  have hql := cutAll_length ps
  have hqj := cutAll_joined ps
  subst hv2
  have HB2 := Lib.hid b2
  have HR2 : Hid (Rd w2 A (bvals key)) := HR.out.below b2
  have HT2 : Hid (Rd w2 T (bvals tag)) := HT.out.below b2
  clear own2 b2 HP HR hpl HT
  generalize cutAll ps = qs at *
  go_wp2_with fail
  refine (joined_any A2 c2 qs w2 HQ.out (by omega) (by omega)).mono ?_
  rintro e w4 ⟨v4, rfl, own4, b4⟩
  obtain ⟨A4, c4, rfl, _, _⟩ := own_slice own4
  have HB4 : Hid (Below w.heap.size w w4) := HB2.out.trans (b4.mono HB2.out.size)
  have HJ4 : Hid (Rd w4 A4 (bvals (joined qs))) := Rd.of_own own4
  have HR4 : Hid (Rd w4 A (bvals key)) := HR2.out.below b4
  have HT4 : Hid (Rd w4 T (bvals tag)) := HT2.out.below b4
  have HQ4 : Hid (Rps w4 A2 qs) := HQ.out.below b4
  clear own4 b4 HB2 HR2 HQ HT2
  go_wp2_with fail
  refine (rtag_any A A4 c c4 key (joined qs) w4 HR4.out hkl HJ4.out (by omega)).mono ?_
  rintro e w5 ⟨v5, rfl, own5, b5⟩
  obtain ⟨A5, c5, rfl, _, _⟩ := own_slice own5
  have HB5 : Hid (Below w.heap.size w w5) := HB4.out.trans (b5.mono HB4.out.size)
  have HU5 : Hid (Rd w5 A5 (bvals (tagOf key (joined qs)))) := Rd.of_own own5
  have HR5 : Hid (Rd w5 A (bvals key)) := HR4.out.below b5
  have HT5 : Hid (Rd w5 T (bvals tag)) := HT4.out.below b5
  have HQ5 : Hid (Rps w5 A2 qs) := HQ4.out.below b5
  have HL := Lib.hid (tagOf_length key (joined qs))
  clear own5 b5 HB4 HR4 HT4 HJ4 HQ4
  generalize hW : tagOf key (joined qs) = want at *
  have HW := Lib.hid hW
  clear hW
  go_wp2_with fail
  rw [← HL.out]
  refine (same_any T A5 tc c5 tag want w5 HT5.out HU5.out (by omega) (by rw [HL.out]; omega)).mono ?_
  rintro e w6 ⟨rfl, q, rfl⟩
  rw [HL.out]
  have HB6 : Hid (Below w.heap.size w (w5.drewN q)) := Below.drewN_ HB5.out q
  have HU6 : Hid (Rd (w5.drewN q) A5 (bvals want)) := HU5.out.drewN q
  have HR6 : Hid (Rd (w5.drewN q) A (bvals key)) := HR5.out.drewN q
  have HT6 : Hid (Rd (w5.drewN q) T (bvals tag)) := HT5.out.drewN q
  have HQ6 : Hid (Rps (w5.drewN q) A2 qs) := HQ5.out.drewN q
  generalize w5.drewN q = w6 at *
  clear HB5 HU5 HR5 HT5 HQ5
  go_wp2_with fail
  refine (right_any A T A2 c tc c2 key tag qs w6 HR6.out hkl HT6.out HQ6.out (by omega) (by omega) (HK.out.below HB6.out)).mono ?_
  rintro e w7 ⟨rfl, b7⟩
  rw [HW.out]
  have HB7 : Hid (Below w.heap.size w w7) := HB6.out.trans (b7.mono HB6.out.size)
  have HU7 : Hid (Rd w7 A5 (bvals want)) := HU6.out.below b7
  have HR7 : Hid (Rd w7 A (bvals key)) := HR6.out.below b7
  have HQ7 : Hid (Rps w7 A2 qs) := HQ6.out.below b7
  clear b7 HB6 HU6 HR6 HT6 HQ6
  generalize sameB tag want = same at *
  go_wp2_with fail
  rw [← HL.out]
  refine (right_any A A5 A2 c c5 c2 key want qs w7 HR7.out hkl HU7.out HQ7.out (by omega) (by omega) (HK.out.below HB7.out)).mono ?_
  rintro e w8 ⟨rfl, b8⟩
  rw [HW.out, sameB_self]
  have HB8 : Hid (Below w.heap.size w w8) := HB7.out.trans (b8.mono HB7.out.size)
  go_wp2_with fail
  refine (lives2_any _ (HK.out.below HB8.out)).mono ?_
  rintro e w9 ⟨rfl, b9⟩
  have HB9 : Hid (Below w.heap.size w w9) := HB8.out.trans (b9.mono HB8.out.size)
  go_wp2_with fail
  go_ret
  exact ⟨rfl, HB9.out⟩
set_option maxRecDepth 100000 in
set_option maxHeartbeats 2000000 in
theorem macStays_any (A P : Option Addr) (c pc : Nat) (kb : List UInt8) (ps : List Pt) (w : World) (hr : Rd w A (bvals kb)) (hc : kb.length ≤ c) (hm : c ≤ maxLen) (hp : Rps w P ps) (hpl : ps.length ≤ maxLen) (hk : HasK w) :
    Calls Tryd.prog 12 #[.slice A kb.length c, .slice P ps.length pc] w fun e w' => e = .returned (.bool true) ∧ Below w.heap.size w w' := by
  have HP := Lib.hid hp
  have HK := Lib.hid hk
  have hkl := take150 kb
  have HR := Lib.hid (hr.takeB ((150 : Int).toNat))
  clear hp hk hr
  go_enter Tryd.func12, Tryd.ntmps12
  go_wp2_with fail
  refine (few2_bs A kb c 150 w hc hm (by decide) (by decide)).mono ?_
  rintro e w1 ⟨rfl, rfl⟩
  clear hc
  generalize kb.take ((150 : Int).toNat) = key at *
  go_wp2_with fail
  refine (cut_any P pc ps w HP.out hpl).mono ?_
  rintro e w2 ⟨v2, rfl, own2, b2⟩
  obtain ⟨A2, c2, hv2, _, _⟩ := own_slice own2
  have HQ : Hid (Rps w2 A2 (cutAll ps)) := Rps.of_own own2 hv2 (cutAll_ok fun p hp => (HP.out.each p hp).below b2)
  have hql := cutAll_length ps
  have hqj := cutAll_joined ps
  subst hv2
  have HB2 := Lib.hid b2
  have HR2 : Hid (Rd w2 A (bvals key)) := HR.out.below b2
  clear own2 b2 HP HR hpl
  generalize cutAll ps = qs at *
  go_wp2_with (at_builtin; obtain ⟨v3, w3, hrun3, own3, grow3, at3⟩ := app_own byteE 22 (World.ownsRow_nil w2 w2.heap.size 5 1) key.length c HR2.out (by rw [bvals_length, Nat.mul_one]) (bvals_one _) (by omega) (by unfold maxLen; omega) (Nat.le_refl _); simp only [Nat.zero_add, List.nil_append] at own3; obtain ⟨A3, c3, rfl, _, _⟩ := own_slice own3; refine wpl_append rfl (.tmp 15) (.tmp 16) 22 22 rfl _ _ rfl rfl hrun3 ?_)
  have b3 : Below w2.heap.size w2 w3 := (Below.refl _ _).grown grow3 (Nat.le_refl _) (by simp [Value.ownBlock])
  have HB3 : Hid (Below w.heap.size w w3) := HB2.out.trans (b3.mono HB2.out.size)
  have HO3 : Hid (Rd w3 A3 (bvals key)) := Rd.of_own own3
  have HR3 : Hid (Rd w3 A (bvals key)) := HR2.out.below b3
  have HQ3 : Hid (Rps w3 A2 qs) := HQ.out.below b3
  clear own3 b3 grow3 hrun3 at3 HB2 HR2 HQ
  refine (joined_any A2 c2 qs w3 HQ3.out (by omega) (by omega)).mono ?_
  rintro e w4 ⟨v4, rfl, own4, b4⟩
  obtain ⟨A4, c4, rfl, _, _⟩ := own_slice own4
  have HB4 : Hid (Below w.heap.size w w4) := HB3.out.trans (b4.mono HB3.out.size)
  have HJ4 : Hid (Rd w4 A4 (bvals (joined qs))) := Rd.of_own own4
  have HR4 : Hid (Rd w4 A (bvals key)) := HR3.out.below b4
  have HO4 : Hid (Rd w4 A3 (bvals key)) := HO3.out.below b4
  have HQ4 : Hid (Rps w4 A2 qs) := HQ3.out.below b4
  clear own4 b4 HB3 HR3 HQ3 HO3
  go_wp2_with fail
  refine (tag_any A A2 c c2 key qs w4 HR4.out hkl HQ4.out (by omega) (by omega) (HK.out.below HB4.out)).mono ?_
  rintro e w5 ⟨v5, rfl, own5, b5⟩
  obtain ⟨g5, c5, rfl, hg5, _, hc5⟩ := own_form own5 (by omega)
  obtain ⟨cs, hB, hcs, _⟩ := own_blk own5
  have hz5 := b5.size
  have HBl := Lib.hid hB
  have HG5 := Lib.hid hg5
  have HCS : Hid (32 ≤ cs.length) := by unfold Hid; omega
  have HB5 : Hid (Below w.heap.size w w5) := HB4.out.trans (b5.mono HB4.out.size)
  have HV5 := Lib.hid b5
  clear own5 b5 hB hcs hg5
  go_wp2_with fail
  go_loopw [8] (fun i wx => ∃ k : Nat, ∃ cs : List Value, k ≤ 32 ∧ i = .int .i64 (k : Int) ∧ 32 ≤ cs.length ∧ Blk wx g5 5 cs ∧ Below w4.heap.size w4 wx) (fun i _ => 32 - (intOf i).toNat)
  case atStart => exact ⟨0, cs, by omega, rfl, HCS.out, HBl.out, HV5.out⟩
  case round =>
    clear HBl HCS HV5 HB5 hz5
    obtain ⟨k, cs, hk, rfl, hcs, hB, hbel⟩ := hrel
    by_cases hlt : k < 32
    · have hlt' : (k : Int) < 32 := by omega
      have hcell : wr.cell? ⟨g5, k, none⟩ = some (cs[k]'(by omega)) := by rw [hB.cell]; simp
      have hfz := hB.frozen k
      have HB := Lib.hid hB
      have HL := Lib.hid hbel
      clear hB hbel
      go_wp2_with fail
      go_roundw
      case rel => exact ⟨k + 1, _, by omega, by go_num, by rw [List.length_set]; exact hcs, HB.out.set_ k _, HL.out.setCell HG5.out _⟩
      case measure => simp [intOf]; omega
    · obtain rfl : k = 32 := by omega
      have HB6 : Hid (Below w.heap.size w wr) := HB4.out.trans (hbel.mono HB4.out.size)
      have HR6 : Hid (Rd wr A (bvals key)) := HR4.out.below hbel
      have HO6 : Hid (Rd wr A3 (bvals key)) := HO4.out.below hbel
      have HJ6 : Hid (Rd wr A4 (bvals (joined qs))) := HJ4.out.below hbel
      have HQ6 : Hid (Rps wr A2 qs) := HQ4.out.below hbel
      clear hB hbel HB4 HR4 HO4 HJ4 HQ4 hlt hk
      go_wp2_with fail
      refine (same_any A3 A c3 c key key wr HO6.out HR6.out (by omega) (by omega)).mono ?_
      rintro e w7 ⟨rfl, q, rfl⟩
      rw [sameB_self]
      have HB7 : Hid (Below w.heap.size w (wr.drewN q)) := Below.drewN_ HB6.out q
      have HJ7 : Hid (Rd (wr.drewN q) A4 (bvals (joined qs))) := HJ6.out.drewN q
      have HQ7 : Hid (Rps (wr.drewN q) A2 qs) := HQ6.out.drewN q
      generalize wr.drewN q = w7 at *
      clear HB6 HR6 HO6 HJ6 HQ6
      go_wp2_with fail
      refine (joined_any A2 c2 qs w7 HQ7.out (by omega) (by omega)).mono ?_
      rintro e w8 ⟨v8, rfl, own8, b8⟩
      obtain ⟨A8, c8, rfl, _, _⟩ := own_slice own8
      have HB8 : Hid (Below w.heap.size w w8) := HB7.out.trans (b8.mono HB7.out.size)
      have HI8 : Hid (Rd w8 A8 (bvals (joined qs))) := Rd.of_own own8
      have HJ8 : Hid (Rd w8 A4 (bvals (joined qs))) := HJ7.out.below b8
      clear own8 b8 HB7 HJ7 HQ7
      go_wp2_with fail
      refine (same_any A4 A8 c4 c8 (joined qs) (joined qs) w8 HJ8.out HI8.out (by omega) (by omega)).mono ?_
      rintro e w9 ⟨rfl, q, rfl⟩
      rw [sameB_self]
      have HB9 : Hid (Below w.heap.size w (w8.drewN q)) := Below.drewN_ HB8.out q
      generalize w8.drewN q = w9 at *
      go_wp2_with fail
      refine (lives2_any _ (HK.out.below HB9.out)).mono ?_
      rintro e w10 ⟨rfl, b10⟩
      have HB10 : Hid (Below w.heap.size w w10) := HB9.out.trans (b10.mono HB9.out.size)
      go_wp2_with fail
      go_ret
      exact ⟨rfl, HB10.out⟩
end Go.Proofs.YtleeacgimikdbaaDoor
