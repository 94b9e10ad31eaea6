/- The walk of TapeAll: a crash that keeps all changes nothing. -/
import Derived.Test.YtpcmfbdlfjlobaaP3
namespace Go.Proofs.Ytpcmfbdlfjlobaa
open Go.RowKit
set_option linter.unusedVariables false
attribute [local go_sem ↓] Go.wp_at_zero Go.wp_at_succ
theorem pick_self (n : Nat) : pickF (n : Int) (n + 1) = n := by
  unfold pickF
  rw [if_neg (by omega), Int.emod_eq_of_lt (by omega) (by omega)]
  omega
theorem crash_all (s : TSt) : s.crashed s.us.length = ⟨s.now, [], false, 0⟩ := by
  unfold TSt.crashed TSt.now
  rw [List.take_of_length_le (Nat.le_refl _)]
theorem rdy_idle (sd : Sd) (us : List Un) (L : Int) (o : Bool) : rdyN ⟨sd, us, false, L⟩ (sdI o) = 0 := by cases o <;> simp [rdyN, sdI]
set_option maxRecDepth 100000 in
set_option maxHeartbeats 8000000 in
theorem all_any (A : Option Addr) (c : Nat) (l : List Dd) (w : World) (h : DeedsAt w A l) (hl : l.length ≤ maxLen) :
    Calls Try.prog 6 #[.slice A l.length c] w (Lived w) := by
  unfold maxLen at hl
  generalize hn : l.length = m at hl ⊢
  have HN := Lib.hid hn
  have HD := Lib.hid h
  clear hn h
  go_enter Try.func6, Try.ntmps6
  go_wp2_with fail
  refine (new_any w).mono ?_
  rintro e w1 ⟨p, F, rfl, hr1, hlo1, hb1⟩
  have HR1 := Lib.hid hr1
  have HK1 := Lib.hid hb1
  have HL1 := Lib.hid hlo1
  clear hr1 hb1 hlo1
  go_wp2_with fail
  refine (rnew_any w1).mono ?_
  rintro e w2 ⟨q, G, rfl, hr2, hlo2, hb2⟩
  have HT2 : Hid (Two w.heap.size w2 p q t0 t0 F G) := two_new HR1.out HL1.out HK1.out hr2 hlo2 hb2
  have HB2 : Hid (Below w.heap.size w w2) := HK1.out.trans (hb2.mono HK1.out.size)
  clear hr2 hlo2 hb2 HR1 HK1 HL1
  go_wp2_with fail
  go_loopw [5] (fun i wr => InvPl w.heap.size w p q m 40 i wr) (fun i _ => 40 - (intOf i).toNat)
  case atStart => exact ⟨0, t0, F, G, by omega, by omega, rfl, HT2.out, t0_good, by simp [t0], HB2.out⟩
  case round =>
    clear HT2 HB2
    obtain ⟨k, s, F, G, hk, hk1, rfl, ht, hg, hus, hb⟩ := hrel
    have HT := Lib.hid ht
    have HG := Lib.hid hg
    have HB := Lib.hid hb
    have HUS : Hid (s.us.length ≤ 60 * k) := hus
    clear ht hg hb hus
    by_cases hlt : k < m ∧ k < 40
    · obtain ⟨hkn, hk100⟩ := hlt
      have hkn' : (k : Int) < (m : Int) := by omega
      have hk100' : (k : Int) < 40 := by omega
      obtain ⟨d, b, off, rfl, hok, hfar, _, hc⟩ := deed_at HD.out (by rw [HN.out]; exact hkn) HB.out rfl HT.out
      have x0 := hc 0 _ rfl
      have x1 := hc 1 _ rfl
      have x2 := hc 2 _ rfl
      have x3 := hc 3 _ rfl
      rw [Nat.add_zero] at x0
      have HDO := Lib.hid (acts_any d HT.out HG.out (by have := HUS.out; omega) hok hfar)
      clear hc hok hfar
      go_wp2_with fail
      refine HDO.out.mono ?_
      rintro e w3 ⟨rfl, ⟨s', F', G', ht', hg', hu', _, _⟩, hb', _⟩
      have HT3 := Lib.hid ht'
      have HG3 := Lib.hid hg'
      have HB3 : Hid (Below w.heap.size w w3) := HB.out.trans hb'
      have HU3 : Hid (s'.us.length ≤ 60 * (k + 1)) := by have := HUS.out; unfold Hid; omega
      clear ht' hg' hb' hu' x0 x1 x2 x3 HT HG HB HDO HUS
      go_wp2_with fail
      go_roundw
      case rel => exact ⟨k + 1, s', F', G', by omega, by omega, by go_num, HT3.out, HG3.out, HU3.out, HB3.out⟩
      case measure => simp [intOf]; omega
    · have hx : ¬ (k : Int) < (m : Int) ∨ ((k : Int) < (m : Int) ∧ ¬ (k : Int) < 40) := by omega
      have HU2 : Hid (s.us.length ≤ 1000000) := by have := HUS.out; unfold Hid; omega
      have HUN := Lib.hid (units_any HT.out.rp)
      have HCR := crash_any (s.us.length : Int) HT.out.rp HG.out (by have := HU2.out; omega) (by have := HU2.out; omega) HU2.out
      rw [pick_self, crash_all] at HCR
      have HCR2 := Lib.hid HCR
      have HGN : Hid ((TSt.mk s.now [] false 0).good) := by
        have := HG.out.crashed s.us.length
        rw [crash_all] at this
        exact this
      clear hlt hk hk1 HD HN hl HCR HUS
      rcases hx with hx | ⟨hx, hx2⟩
      all_goals
        go_wp2_with fail
        refine HUN.out.mono ?_
        rintro e w' ⟨rfl, rfl⟩
        go_wp2_with fail
        refine HCR2.out.mono ?_
        rintro e w4 ⟨rfl, F4, hr4, hk4, hg4⟩
        have HT4 := Lib.hid (HT.out.left hr4 hk4 hg4)
        have HB4 : Hid (Below w.heap.size w w4) := HB.out.trans (hk4.below HT.out.loF HT.out.lo)
        clear hr4 hk4 hg4 HCR2 HUN HT HB hx
        go_wp2_with fail
        obtain ⟨wo, rfl⟩ : ∃ wo : World, wo = wr := ⟨_, rfl⟩
        go_loopw [6, 7, 8, 9] (fun i _ _ _ wr => (i = .int .i64 0 ∨ i = .int .i64 1 ∨ i = .int .i64 2) ∧ Below w4.heap.size w4 wr) (fun i _ _ _ _ => 2 - (intOf i).toNat)
        case atStart => exact ⟨.inl rfl, Below.refl _ _⟩
        case round =>
          obtain ⟨hi, hb⟩ := hrel
          have HTr := Lib.hid (HT4.out.below hb)
          have HBr := Lib.hid hb
          clear hb
          rcases hi with rfl | rfl | rfl
          · have HR := Lib.hid (read_any false HTr.out.rp HGN.out (rdy_idle _ _ _ false))
            go_wp2_with fail
            refine HR.out.mono ?_
            rintro e w5 ⟨A5, c5, rfl, own5, hg5, hb5⟩
            have HRN := Lib.hid (rnow_any false (HTr.out.below hb5).rq HG.out HU2.out)
            have HO5 := Lib.hid own5
            have HB5 := Lib.hid hb5
            clear own5 hg5 hb5 HR
            rw [show (TSt.mk s.now [] false 0).now.get false = s.now.get false from rfl] at *
            go_wp2_with fail
            refine HRN.out.mono ?_
            rintro e w6 ⟨A6, c6, rfl, own6, hg6, hb6⟩
            have hs := same_any A5 A6 c5 c6 (s.now.get false) (s.now.get false) w6 (HO5.out.rd.below hb6) own6.rd (by have := HG.out.now false; omega) (by have := HG.out.now false; omega)
            rw [sameB_self] at hs
            have HS := Lib.hid hs
            have HB6 : Hid (Below w4.heap.size w4 w6) := HBr.out.trans ((HB5.out.trans (hb6.mono HB5.out.size)).mono HBr.out.size)
            clear own6 hg6 hb6 hs HRN HO5 HB5
            generalize (s.now.get false).length = n at *
            go_wp2_with fail
            refine HS.out.mono ?_
            rintro e w7 ⟨rfl, nd, rfl⟩
            have HB7 : Hid (Below w4.heap.size w4 (w6.drewN nd)) := Below.drewN_ HB6.out nd
            clear HS
            generalize w6.drewN nd = w7 at *
            go_wp2_with fail
            go_roundw
            case rel => exact ⟨.inr (.inl (by go_num)), HB7.out⟩
            case measure => simp [intOf]
          · have HR := Lib.hid (read_any true HTr.out.rp HGN.out (rdy_idle _ _ _ true))
            go_wp2_with fail
            refine HR.out.mono ?_
            rintro e w5 ⟨A5, c5, rfl, own5, hg5, hb5⟩
            have HRN := Lib.hid (rnow_any true (HTr.out.below hb5).rq HG.out HU2.out)
            have HO5 := Lib.hid own5
            have HB5 := Lib.hid hb5
            clear own5 hg5 hb5 HR
            rw [show (TSt.mk s.now [] false 0).now.get true = s.now.get true from rfl] at *
            go_wp2_with fail
            refine HRN.out.mono ?_
            rintro e w6 ⟨A6, c6, rfl, own6, hg6, hb6⟩
            have hs := same_any A5 A6 c5 c6 (s.now.get true) (s.now.get true) w6 (HO5.out.rd.below hb6) own6.rd (by have := HG.out.now true; omega) (by have := HG.out.now true; omega)
            rw [sameB_self] at hs
            have HS := Lib.hid hs
            have HB6 : Hid (Below w4.heap.size w4 w6) := HBr.out.trans ((HB5.out.trans (hb6.mono HB5.out.size)).mono HBr.out.size)
            clear own6 hg6 hb6 hs HRN HO5 HB5
            generalize (s.now.get true).length = n at *
            go_wp2_with fail
            refine HS.out.mono ?_
            rintro e w7 ⟨rfl, nd, rfl⟩
            have HB7 : Hid (Below w4.heap.size w4 (w6.drewN nd)) := Below.drewN_ HB6.out nd
            clear HS
            generalize w6.drewN nd = w7 at *
            go_wp2_with fail
            go_roundw
            case rel => exact ⟨.inr (.inr (by go_num)), HB7.out⟩
            case measure => simp [intOf]
          · have HU := Lib.hid (units_any HTr.out.rp)
            rw [show (TSt.mk s.now [] false 0).us.length = 0 from rfl] at HU
            go_wp2_with fail
            refine HU.out.mono ?_
            rintro e w' ⟨rfl, rfl⟩
            go_wp2_with fail
            refine (lives_any wr).mono ?_
            rintro e w8 ⟨rfl, hb8⟩
            have HB8 : Hid (Below w.heap.size w w8) := HB4.out.trans ((HBr.out.trans (hb8.mono HBr.out.size)).mono HB4.out.size)
            clear hb8
            go_wp2_with fail
            go_ret
            exact ⟨rfl, HB8.out⟩
end Go.Proofs.Ytpcmfbdlfjlobaa
