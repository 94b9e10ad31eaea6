/- The laws of the digest: Long, Stays. -/
import Derived.Test.YtleeacgimikdbaaDoorL2
namespace Go.Proofs.YtleeacgimikdbaaDoor
open Go.RowKit
attribute [local go_sem ↓] Go.wp_at_zero Go.wp_at_succ
theorem bvals_replicate (n : Nat) (b : UInt8) : bvals (List.replicate n b) = List.replicate n (bval b) := by simp [bvals]
set_option maxRecDepth 100000 in
set_option maxHeartbeats 2000000 in
theorem shaLong_any (b : UInt8) (n : Int) (w : World) (h1 : -9223372036854775808 ≤ n) (h2 : n ≤ 9223372036854775807) (hk : HasK w) :
    Calls Tryd.prog 4 #[.int .u8 (b.toNat : Int), .int .i64 n] w fun e w' => e = .returned (.bool true) ∧ Below w.heap.size w w' := by
  have hK := Lib.hid hk
  clear hk
  obtain ⟨m, hm3, hm⟩ : ∃ m : Nat, m < 300 ∧ ((n < 0 ∧ -(n + 1).tmod 300 = (m : Int)) ∨ (¬ n < 0 ∧ n % 300 = (m : Int))) := by
    by_cases hn : n < 0
    · refine ⟨((-(n + 1)) % 300).toNat, by omega, .inl ⟨hn, ?_⟩⟩
      rw [← Int.neg_tmod, Int.tmod_eq_emod_of_nonneg (by omega)]
      omega
    · exact ⟨(n % 300).toNat, by omega, .inr ⟨hn, by omega⟩⟩
  rcases hm with ⟨hn, hm⟩ | ⟨hn, hm⟩
  all_goals
    go_enter Tryd.func4, Tryd.ntmps4
    go_wp2_with fail
    clear hm hn
    go_loopw [5, 6] (fun v i wr => ∃ k : Nat, k ≤ m ∧ i = .int .i64 (k : Int) ∧ wr.ownsRow w.heap.size 5 1 v k (bvals (List.replicate k b)) ∧ Below w.heap.size w wr) (fun _ i _ => m - (intOf i).toNat)
    case atStart => exact ⟨0, by omega, rfl, World.ownsRow_nil _ _ _ _, Below.refl _ _⟩
    case round =>
      obtain ⟨k, hkm, rfl, hown, hb⟩ := hrel
      have HO := Lib.hid hown
      have HV := Lib.hid hb
      clear hown hb
      by_cases hlt : k < m
      · have hlt' : (k : Int) < (m : Int) := by omega
        go_wp2_with (at_builtin; obtain ⟨v5, w5, hrun5, own5, grow5, at5⟩ := app_own byteE 22 (HO.out.alloc (.cells #[.int .u8 (b.toNat : Int)] 5)) (A := some ⟨wr.heap.size, 0, none⟩) (news := bvals [b]) 1 1 (Rd.of_blk (cs := bvals [b]) (Blk.new wr 5 _) 0) rfl (bvals_one _) (by omega) (by unfold maxLen; omega) (by simp; exact Nat.le_succ_of_le HV.out.size); refine wpl_append rfl (.tmp 20) (.tmp 22) 22 22 rfl _ _ rfl rfl hrun5 ?_)
        go_roundw
        case rel =>
          refine ⟨k + 1, by omega, by go_num, ?_, (HV.out.alloc HV.out.size _).grown grow5 (by simp; exact Nat.le_succ_of_le HV.out.size) (fun q hq => (HO.out.lt q hq).1)⟩
          rw [List.replicate_succ', bvals_append]
          exact own5
        case measure => simp [intOf]; omega
      · obtain rfl : k = m := by omega
        have hK2 := Lib.hid (hK.out.below HV.out)
        have hform : Hid (∃ A cap, u5 = .slice A k cap) := by
          rcases HO.out.2 with ⟨h1, h2⟩ | ⟨g, cap, _, h1, _⟩
          · exact ⟨none, 0, by rw [h1, h2]⟩
          · exact ⟨_, cap, h1⟩
        obtain ⟨A, cap, rfl⟩ := hform.out
        have hr : Hid (Rd wr A (bvals (List.replicate k b))) := Rd.of_own HO.out
        have hL : Hid ((List.replicate k b).length = k) := List.length_replicate
        generalize List.replicate k b = xs at *
        go_wp2_with fail
        rw [← hL.out]
        refine (sum_any A cap xs wr hr.out (by rw [hL.out]; omega) hK2.out).mono ?_
        rintro e w2 ⟨v2, rfl, own2, b2⟩
        obtain ⟨g2, c2, rfl, _, _, _⟩ := own_form own2 (by omega)
        have hr3 := Lib.hid (hr.out.below b2)
        have B2 : Hid (Below w.heap.size w w2) := HV.out.trans (b2.mono HV.out.size)
        have R2 := Lib.hid (Rd.of_own own2)
        have hK3 := Lib.hid (hK2.out.below b2)
        clear own2 b2 hr HO HV hK2
        go_wp2_with fail
        refine (rsum_any A cap xs w2 hr3.out (by rw [hL.out]; omega)).mono ?_
        rintro e w3 ⟨v3, rfl, own3, b3⟩
        obtain ⟨g3, c3, rfl, _, _, _⟩ := own_form own3 (by omega)
        have hr4 := Lib.hid (hr3.out.below b3)
        have B3 : Hid (Below w.heap.size w w3) := B2.out.trans (b3.mono B2.out.size)
        have R3 : Hid (Rd w3 (some ⟨g2, 0, none⟩) (bvals (sha xs))) := R2.out.below b3
        have R4 : Hid (Rd w3 (some ⟨g3, 0, none⟩) (bvals (sha xs))) := Rd.of_own own3
        have hK4 := Lib.hid (hK3.out.below b3)
        have hl : (sha xs).length = 32 := by have := own3.1; simpa [bvals_length] using this
        clear own3 b3 B2 hr3 R2 hK3
        have hds : Hid (sha xs = sha xs) := rfl
        generalize hds' : sha xs = ds at R3 R4 hl
        clear hds hds'
        rw [← hl]
        have HL := Lib.hid hl
        clear hl
        go_wp2_with fail
        refine (same_any (some ⟨g2, 0, none⟩) (some ⟨g3, 0, none⟩) c2 c3 ds ds w3 R3.out R4.out (by rw [HL.out]; omega) (by rw [HL.out]; omega)).mono ?_
        rintro e w4 ⟨rfl, q, rfl⟩
        rw [sameB_self]
        have hr5 := Lib.hid (hr4.out.drewN q)
        have B4 := Lib.hid (Below.drewN_ B3.out q)
        have hK5 := Lib.hid (hK4.out.drewN q)
        clear hK4 hr4 R3 R4 B3 HL
        generalize w3.drewN q = w4 at *
        go_wp2_with fail
        refine (sum_any A cap xs w4 hr5.out (by rw [hL.out]; omega) hK5.out).mono ?_
        rintro e w6 ⟨v6, rfl, own6, b6⟩
        obtain ⟨g6, c6, rfl, _, _, _⟩ := own_form own6 (by omega)
        have B6 : Hid (Below w.heap.size w w6) := B4.out.trans (b6.mono B4.out.size)
        have hK6 := Lib.hid (hK5.out.below b6)
        clear own6 b6 hK5 B4 hr5
        go_wp2_with fail
        refine (lives_any _ hK6.out).mono ?_
        rintro e w7 ⟨rfl, b7⟩
        have B7 : Hid (Below w.heap.size w w7) := B6.out.trans (b7.mono B6.out.size)
        go_wp2_with fail
        go_ret
        exact ⟨rfl, B7.out⟩
end Go.Proofs.YtleeacgimikdbaaDoor
