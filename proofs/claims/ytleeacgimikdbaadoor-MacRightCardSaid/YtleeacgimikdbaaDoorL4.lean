/- The laws of the digest: Stays. -/
import Derived.Test.YtleeacgimikdbaaDoorL3
namespace Go.Proofs.YtleeacgimikdbaaDoor
open Go.RowKit
attribute [local go_sem ↓] Go.wp_at_zero Go.wp_at_succ
theorem own_blk {w : World} {base : Nat} {e : TypeId} {g n cap : Nat} {xs : List Value} (h : w.ownsRow base e 1 (.slice (some ⟨g, 0, none⟩) n cap) n xs) :
    ∃ cs, Blk w g e cs ∧ cs.length = cap ∧ cs.take n = xs := by
  rcases h.2 with ⟨h0, _⟩ | ⟨g', cap', cur, h0, hbg, hg, hnc, hcm, hcs, htake⟩
  · simp at h0
  · simp only [Value.slice.injEq, Option.some.injEq, Addr.mk.injEq, and_true, true_and] at h0
    obtain ⟨rfl, rfl⟩ := h0
    refine ⟨cur.toList, by simpa [Blk] using hg, by simpa using hcs, by simpa using htake⟩
theorem nine_at (xs : List UInt8) {n k : Nat} (h : k < n) : (xs ++ List.replicate n 9).getD (xs.length + k) 0 = 9 := by
  rw [List.getD_eq_getElem?_getD, List.getElem?_append_right (by omega)]
  simp [h]
set_option maxRecDepth 100000 in
set_option maxHeartbeats 2000000 in
theorem shaStays_any (A : Option Addr) (c : Nat) (bs : List UInt8) (w : World) (hr : Rd w A (bvals bs)) (hc : bs.length ≤ c) (hm : c ≤ maxLen) (hk : HasK w) :
    Calls Tryd.prog 7 #[.slice A bs.length c] w fun e w' => e = .returned (.bool true) ∧ Below w.heap.size w w' := by
  have hm' : c ≤ 9223372036854775807 := hm
  have hK := Lib.hid hk
  clear hk
  obtain ⟨xs, hxr, hxl, hx⟩ : ∃ xs, Hid (Rd w A (bvals xs)) ∧ xs.length ≤ 100 ∧ ((100 < bs.length ∧ xs.length = 100) ∨ (¬ 100 < bs.length ∧ xs = bs)) := by
    by_cases h : 100 < bs.length
    · exact ⟨bs.take 100, hr.takeB 100, by rw [List.length_take]; omega, .inl ⟨h, by rw [List.length_take]; omega⟩⟩
    · exact ⟨bs, hr, by omega, .inr ⟨h, rfl⟩⟩
  clear hr
  have hx1 : xs.length < 101 := by omega
  clear hxl
  have h100 : 100 < bs.length → (100 : Int) ≤ (c : Int) := by omega
  rcases hx with ⟨h, hx⟩ | ⟨h, rfl⟩
  have h2 := h100 h
  have HX : Hid (xs.length = 100) := hx
  clear h100 hx
  go_enter Tryd.func7, Tryd.ntmps7
  go_wp2_with (at_builtin; obtain ⟨v2, w2, hrun2, own2, grow2, at2⟩ := app_own byteE 22 (World.ownsRow_nil w w.heap.size 5 1) 100 c hxr.out (by rw [bvals_length, HX.out]) (bvals_one xs) (by omega) (by unfold maxLen; omega) (Nat.le_refl _); simp only [Nat.zero_add, List.nil_append] at own2; refine wpl_append rfl (.tmp 15) (.tmp 16) 22 22 rfl _ _ rfl rfl hrun2 ?_)
  have hx := HX.out
  clear HX hrun2 at2 h2
  generalize (100 : Nat) = n at *
  obtain rfl := hx
  have hxc : Hid (xs.length ≤ c) := by unfold Hid; omega
  clear h hc
  rotate_left
  have hd : decide (100 < (xs.length : Int)) = false := by simp; omega
  clear h100
  go_enter Tryd.func7, Tryd.ntmps7
  go_wp2_with (at_builtin; obtain ⟨v2, w2, hrun2, own2, grow2, at2⟩ := app_own byteE 22 (World.ownsRow_nil w w.heap.size 5 1) xs.length c hxr.out (by rw [bvals_length, Nat.mul_one]) (bvals_one xs) (by omega) (by unfold maxLen; omega) (Nat.le_refl _); simp only [Nat.zero_add, List.nil_append] at own2; refine wpl_append rfl (.tmp 15) (.tmp 16) 22 22 rfl _ _ rfl rfl hrun2 ?_)
  clear hrun2 at2 h hd
  have hxc := Lib.hid hc
  clear hc
  rotate_left
  all_goals
    have HV : Hid (Below w.heap.size w w2) := (Below.refl _ _).grown grow2 (Nat.le_refl _) (by simp [Value.ownBlock])
    have HO := Lib.hid own2
    clear own2 grow2
    go_loopw [3, 4] (fun v i wr => ∃ k : Nat, k ≤ 80 ∧ i = .int .i64 (k : Int) ∧ wr.ownsRow w.heap.size 5 1 v (xs.length + k) (bvals (xs ++ List.replicate k 9)) ∧ Below w.heap.size w wr) (fun _ i _ => 80 - (intOf i).toNat)
    case atStart => exact ⟨0, by omega, rfl, by simpa using HO.out, HV.out⟩
    case round =>
      clear HO HV
      obtain ⟨k, hkm, rfl, hown, hb⟩ := hrel
      have HO := Lib.hid hown
      have HV := Lib.hid hb
      clear hown hb
      by_cases hlt : k < 80
      · have hlt' : (k : Int) < 80 := by omega
        go_wp2_with (at_builtin; obtain ⟨v5, w5, hrun5, own5, grow5, at5⟩ := app_own byteE 22 (HO.out.alloc (.cells #[.int .u8 9] 5)) (A := some ⟨wr.heap.size, 0, none⟩) (news := bvals [9]) 1 1 (Rd.of_blk (cs := bvals [9]) (Blk.new wr 5 _) 0) rfl (bvals_one _) (by omega) (by unfold maxLen; omega) (by simp; exact Nat.le_succ_of_le HV.out.size); refine wpl_append rfl (.tmp 22) (.tmp 23) 22 22 rfl _ _ rfl rfl hrun5 ?_)
        go_roundw
        case rel =>
          refine ⟨k + 1, by omega, by go_num, ?_, (HV.out.alloc HV.out.size _).grown grow5 (by simp; exact Nat.le_succ_of_le HV.out.size) (fun q hq => (HO.out.lt q hq).1)⟩
          rw [List.replicate_succ', ← List.append_assoc, bvals_append]
          exact own5
        case measure => simp [intOf]; omega
      · obtain rfl : k = 80 := by omega
        obtain ⟨g, cap, rfl, hgb, hgl, hcap⟩ := own_form HO.out (by omega)
        have hcm : cap ≤ maxLen := by
          rcases HO.out.2 with ⟨h0, _⟩ | ⟨g', cap', cur, h0, hbg, hg, hnc, hcm, hcs, htake⟩
          · simp at h0
          · simp only [Value.slice.injEq] at h0
            rw [h0.2.2]; exact hcm
        unfold maxLen at hcm
        have hcap' : (xs.length : Int) ≤ (cap : Int) := by omega
        have hK2 := Lib.hid (hK.out.below HV.out)
        have hcl : Hid (∀ j, j < xs.length + 80 → wr.cell? ⟨g, j, none⟩ = some (bval ((xs ++ List.replicate 80 9).getD j 0))) := fun j hj => by
          rw [HO.out.cellAt j (by omega), bvals_at _ j (by simpa using hj)]
        have hrg : Hid (Rd wr (some ⟨g, 0, none⟩) (bvals xs)) := by
          have := (Rd.of_own HO.out).takeB xs.length
          rw [List.take_left' rfl] at this
          exact this
        have hrA : Hid (Rd wr A (bvals xs)) := hxr.out.below HV.out
        clear HO
        go_wp2_with fail
        refine (sum_any (some ⟨g, 0, none⟩) cap xs wr hrg.out (by omega) hK2.out).mono ?_
        rintro e w3 ⟨v3, rfl, own3, b3⟩
        obtain ⟨g3, c3, rfl, hg3, _, hc3⟩ := own_form own3 (by omega)
        obtain ⟨cs, hB, hcs, _⟩ := own_blk own3
        have HBl := Lib.hid hB
        have HB3 := Lib.hid b3
        have HG3 := Lib.hid hg3
        have HCS : Hid (32 ≤ cs.length) := by unfold Hid; omega
        clear own3 b3 hg3 hB hcs
        go_wp2_with fail
        obtain ⟨wo, rfl⟩ : ∃ wo : World, wo = wr := ⟨_, rfl⟩
        go_loopw [6] (fun i wx => ∃ k : Nat, ∃ cs : List Value, k ≤ 32 ∧ i = .int .i64 (k : Int) ∧ 32 ≤ cs.length ∧ Blk wx g3 5 cs ∧ Below wo.heap.size wo wx) (fun i _ => 32 - (intOf i).toNat)
        case atStart => exact ⟨0, cs, by omega, rfl, HCS.out, HBl.out, HB3.out⟩
        case round =>
          clear HBl HB3 HCS
          obtain ⟨k, cs, hk, rfl, hcs, hB, hbel⟩ := hrel
          by_cases hlt : k < 32
          · have hlt' : (k : Int) < 32 := by omega
            have hcell : wr.cell? ⟨g3, k, none⟩ = some (cs[k]'(by omega)) := by rw [hB.cell]; simp
            have hfz := hB.frozen k
            have HB := Lib.hid hB
            have HL := Lib.hid hbel
            clear hB hbel
            go_wp2_with fail
            go_roundw
            case rel => exact ⟨k + 1, _, by omega, by go_num, by rw [List.length_set]; exact hcs, HB.out.set_ k _, HL.out.setCell HG3.out _⟩
            case measure => simp [intOf]; omega
          · obtain rfl : k = 32 := by omega
            have HL := Lib.hid hbel
            have hK3 := Lib.hid (hK2.out.below hbel)
            have hl4 : Hid (∀ j, j < xs.length + 80 → wr.cell? ⟨g, j, none⟩ = some (bval ((xs ++ List.replicate 80 9).getD j 0))) := fun j hj => (hbel.cell (p := ⟨g, j, none⟩) hgl).trans (hcl.out j hj)
            have hrg4 := Lib.hid (hrg.out.below hbel)
            have hrA4 := Lib.hid (hrA.out.below hbel)
            clear hB hbel hrg hrA hcl hK2
            go_wp2_with fail
            obtain ⟨wp, rfl⟩ : ∃ wp : World, wp = wr := ⟨_, rfl⟩
            go_loop [7] (fun i => ∃ k : Nat, k ≤ 80 ∧ i = .int .i64 (k : Int)) (fun i => 80 - (intOf i).toNat)
            case atStart => exact ⟨0, by omega, rfl⟩
            case round =>
              obtain ⟨k, hk, rfl⟩ := hrel
              by_cases hlt : k < 80
              · have hlt' : (k : Int) < 80 := by omega
                have hcell : wp.cell? ⟨g, xs.length + k, none⟩ = some (.int .u8 9) := by
                  rw [hl4.out _ (by omega)]
                  rw [nine_at xs hlt]
                  rfl
                have hti : ((xs.length : Int) + (k : Int)).toNat = xs.length + k := by omega
                go_wp2_with fail
                go_round
                case rel => exact ⟨k + 1, by omega, by go_num⟩
                case measure => simp [intOf]; omega
              · obtain rfl : k = 80 := by omega
                go_wp2_with fail
                refine (same_any (some ⟨g, 0, none⟩) A cap c xs xs wp hrg4.out hrA4.out (by omega) (by omega)).mono ?_
                rintro e w4 ⟨rfl, q, rfl⟩
                rw [sameB_self]
                have hr5 := Lib.hid (hrA4.out.drewN q)
                have B4 : Hid (Below w.heap.size w (wp.drewN q)) := Below.drewN_ (HV.out.trans (HL.out.mono HV.out.size)) q
                have hK5 := Lib.hid (hK3.out.drewN q)
                clear hK3 hrA4 hrg4 hl4 HL HG3
                generalize wp.drewN q = w4 at *
                go_wp2_with fail
                refine (sum_any A c xs w4 hr5.out (by omega) hK5.out).mono ?_
                rintro e w6 ⟨v6, rfl, own6, b6⟩
                obtain ⟨g6, c6, rfl, _, _, _⟩ := own_form own6 (by omega)
                have B6 : Hid (Below w.heap.size w w6) := B4.out.trans (b6.mono B4.out.size)
                have hr6 := Lib.hid (hr5.out.below b6)
                have hK6 := Lib.hid (hK5.out.below b6)
                have R6 := Lib.hid (Rd.of_own own6)
                clear own6 b6 hK5 B4 hr5
                go_wp2_with fail
                refine (rsum_any A c xs w6 hr6.out (by omega)).mono ?_
                rintro e w7 ⟨v7, rfl, own7, b7⟩
                obtain ⟨g7, c7, rfl, _, _, _⟩ := own_form own7 (by omega)
                have B7 : Hid (Below w.heap.size w w7) := B6.out.trans (b7.mono B6.out.size)
                have R7 : Hid (Rd w7 (some ⟨g6, 0, none⟩) (bvals (sha xs))) := R6.out.below b7
                have R8 : Hid (Rd w7 (some ⟨g7, 0, none⟩) (bvals (sha xs))) := Rd.of_own own7
                have hK7 := Lib.hid (hK6.out.below b7)
                have hl : (sha xs).length = 32 := by have := own7.1; simpa [bvals_length] using this
                clear own7 b7 hK6 B6 hr6 R6
                generalize hds' : sha xs = ds at *
                clear hds'
                rw [← hl]
                have HLd := Lib.hid hl
                clear hl
                go_wp2_with fail
                refine (same_any (some ⟨g6, 0, none⟩) (some ⟨g7, 0, none⟩) c6 c7 ds ds w7 R7.out R8.out (by rw [HLd.out]; omega) (by rw [HLd.out]; omega)).mono ?_
                rintro e w8 ⟨rfl, q, rfl⟩
                rw [sameB_self]
                have B8 := Lib.hid (Below.drewN_ B7.out q)
                have hK8 := Lib.hid (hK7.out.drewN q)
                clear B7 hK7
                generalize w7.drewN q = w8 at *
                go_wp2_with fail
                refine (lives_any _ hK8.out).mono ?_
                rintro e w9 ⟨rfl, b9⟩
                have B9 : Hid (Below w.heap.size w w9) := B8.out.trans (b9.mono B8.out.size)
                go_wp2_with fail
                go_ret
                exact ⟨rfl, B9.out⟩
end Go.Proofs.YtleeacgimikdbaaDoor
