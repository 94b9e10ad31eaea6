/- Contracts of Right and of the reference's Tag. -/
import Derived.Test.YtleeacgimikdbaaDoorM4
namespace Go.Proofs.YtleeacgimikdbaaDoor
open Go.RowKit
attribute [local go_sem ↓] Go.wp_at_zero Go.wp_at_succ
set_option maxRecDepth 100000 in
set_option maxHeartbeats 1000000 in
theorem right_any (A T P : Option Addr) (c tc pc : Nat) (key tag : List UInt8) (ps : List Pt) (w : World) (hk : Rd w A (bvals key)) (hkl : key.length ≤ 1000) (ht : Rd w T (bvals tag)) (hr : Rps w P ps) (hn : ps.length ≤ 1000) (hj : (joined ps).length ≤ 100000) (hK : HasK w) :
    Calls Tryd.prog 27 #[.slice A key.length c, .slice T tag.length tc, .slice P ps.length pc] w fun e w' => e = .returned (.bool (sameB tag (tagOf key (joined ps)))) ∧ Below w.heap.size w w' := by
  have HT := Lib.hid ht
  clear ht
  go_enter Tryd.func27, Tryd.ntmps27
  go_wp2_with fail
  refine (tag_any A P c pc key ps w hk hkl hr hn hj hK).mono ?_
  rintro e w1 ⟨v1, rfl, own1, b1⟩
  obtain ⟨A1, c1, rfl, _, _⟩ := own_slice own1
  have HT1 := Lib.hid (HT.out.below b1)
  have HB1 := Lib.hid b1
  have HR1 : Hid (Rd w1 A1 (bvals (tagOf key (joined ps)))) := Rd.of_own own1
  have hl := tagOf_length key (joined ps)
  clear hk hr hK own1 b1 HT hn hj hkl
  generalize hD : tagOf key (joined ps) = D at *
  have HD := Lib.hid hD
  clear hD
  go_wp2_with fail
  rw [← hl]
  refine (equal_any T A1 tc c1 tag D w1 HT1.out HR1.out).mono ?_
  rintro e w2 ⟨rfl, hw⟩
  obtain rfl := hw.symm
  go_wp2_with fail
  go_ret
  exact ⟨by rw [HD.out]; rfl, HB1.out⟩
def Apart (u v : Value) : Prop := u.ownBlock = none ∨ v.ownBlock = none ∨ u.ownBlock ≠ v.ownBlock
theorem Apart.symm {u v : Value} (h : Apart u v) : Apart v u := by
  rcases h with h | h | h
  · exact .inr (.inl h)
  · exact .inl h
  · exact .inr (.inr (Ne.symm h))
theorem Apart.kept {u v : Value} (h : Apart u v) : v.ownBlock = none ∨ v.ownBlock ≠ u.ownBlock := by
  by_cases hv : v.ownBlock = none
  · exact .inl hv
  · rcases h with h | h | h
    · exact .inr (by rw [h]; exact hv)
    · exact .inl h
    · exact .inr (Ne.symm h)
theorem Apart.left {u u' v : Value} {s : Nat} (h : Apart u v) (hu : u'.ownBlock = u.ownBlock ∨ u'.ownBlock = some s) (hv : ∀ g, v.ownBlock = some g → g < s) : Apart u' v := by
  rcases hu with hu | hu
  · unfold Apart; rw [hu]; exact h
  · unfold Apart
    rw [hu]
    cases hvb : v.ownBlock with
    | none => exact .inr (.inl rfl)
    | some g => exact .inr (.inr (fun e => by have := hv g hvb; simp at e; omega))
theorem own_lt {w : World} {base : Nat} {e : TypeId} {size : Nat} {v : Value} {n : Nat} {xs : List Value} (h : w.ownsRow base e size v n xs) : ∀ g, v.ownBlock = some g → g < w.heap.size := fun g hg => (h.lt g hg).2
theorem xorAll_take (l : List UInt8) (b : UInt8) (k : Nat) (h : k < l.length) : xorAll (l.take (k + 1)) b = xorAll (l.take k) b ++ [l.getD k 0 ^^^ b] := by
  unfold xorAll
  rw [List.take_succ_eq_append_getElem h, List.map_append, List.getD_eq_getElem?_getD, List.getElem?_eq_getElem h]
  rfl
theorem u8_xor54 (x : UInt8) : bits .xor .u8 (x.toNat : Int) 54 = ((x ^^^ 54).toNat : Int) := u8_xor x 54
theorem u8_xor92 (x : UInt8) : bits .xor .u8 (x.toNat : Int) 92 = ((x ^^^ 92).toNat : Int) := u8_xor x 92
set_option maxRecDepth 100000 in
set_option maxHeartbeats 2000000 in
theorem rtag_any (A D : Option Addr) (c dc : Nat) (key data : List UInt8) (w : World) (hk : Rd w A (bvals key)) (hkl : key.length ≤ 1000) (hd : Rd w D (bvals data)) (hdl : data.length ≤ 100000) :
    Calls Tryd.prog 24 #[.slice A key.length c, .slice D data.length dc] w fun e w' => ∃ v, e = .returned v ∧ w'.ownsRow w.heap.size 5 1 v 32 (bvals (tagOf key data)) ∧ Below w.heap.size w w' := by
  have hKF := keyFor_le key
  have HT : Hid (tagOf key data = sha (xorAll (padTo64 (keyFor key)) 92 ++ sha (xorAll (padTo64 (keyFor key)) 54 ++ data))) := rfl
  have HA := Lib.hid hk
  have HDA := Lib.hid hd
  clear hk hd
  by_cases h64 : 64 < key.length
  have hkf : Hid (keyFor key = sha key) := if_pos h64
  have hdd : decide (64 < (key.length : Int)) = true := by simp; omega
  go_enter Tryd.func24, Tryd.ntmps24
  go_wp2_with fail
  refine (rsum_any A c key w HA.out (by omega)).mono ?_
  rintro e w1 ⟨v1, rfl, own1, b1⟩
  obtain ⟨A1, c1, rfl, _, _⟩ := own_slice own1
  have HO1 := Lib.hid own1
  have HB1 := Lib.hid b1
  clear own1 b1
  go_wp2_with (at_builtin; obtain ⟨v2, w2, hrun2, own2, grow2, at2⟩ := app_own byteE 22 (World.ownsRow_nil w1 w.heap.size 5 1) 32 c1 (Rd.of_own HO1.out) (by rw [bvals_length, sha_length]) (bvals_one _) (by omega) (by unfold maxLen; omega) HB1.out.size; simp only [Nat.zero_add, List.nil_append] at own2; refine wpl_append rfl (.tmp 12) (.tmp 14) 22 22 rfl _ _ rfl rfl hrun2 ?_)
  have HO2 : Hid (w2.ownsRow w.heap.size 5 1 v2 (keyFor key).length (bvals (keyFor key))) := by
    rw [hkf.out, sha_length]
    exact own2
  have HB2 : Hid (Below w.heap.size w w2) := HB1.out.grown grow2 HB1.out.size (by simp [Value.ownBlock])
  clear own2 grow2 hrun2 at2 HO1 HB1
  rotate_left
  have hkf : Hid (keyFor key = key) := if_neg h64
  have hdd : decide (64 < (key.length : Int)) = false := by simp; omega
  go_enter Tryd.func24, Tryd.ntmps24
  go_wp2_with (at_builtin; obtain ⟨v2, w2, hrun2, own2, grow2, at2⟩ := app_own byteE 22 (World.ownsRow_nil w w.heap.size 5 1) key.length c HA.out (by rw [bvals_length, Nat.mul_one]) (bvals_one _) (by omega) (by unfold maxLen; omega) (Nat.le_refl _); simp only [Nat.zero_add, List.nil_append] at own2; refine wpl_append rfl (.tmp 16) (.tmp 17) 22 22 rfl _ _ rfl rfl hrun2 ?_)
  have HO2 : Hid (w2.ownsRow w.heap.size 5 1 v2 (keyFor key).length (bvals (keyFor key))) := by
    rw [hkf.out]
    exact own2
  have HB2 : Hid (Below w.heap.size w w2) := (Below.refl _ _).grown grow2 (Nat.le_refl _) (by simp [Value.ownBlock])
  clear own2 grow2 hrun2 at2
  rotate_left
  all_goals
    clear hdd h64 hkf
    generalize hkf' : keyFor key = kf at *
    have HKF' := Lib.hid hkf'
    clear hkf'
    go_loopw [5] (fun v wr => ∃ k : Nat, kf.length + k ≤ 64 ∧ wr.ownsRow w.heap.size 5 1 v (kf.length + k) (bvals (kf ++ List.replicate k 0)) ∧ Below w.heap.size w wr) (fun v _ => 64 - lenW v)
    case atStart => exact ⟨0, by omega, by simpa using HO2.out, HB2.out⟩
    case round =>
      clear HO2 HB2
      obtain ⟨k, hk, hown, hb⟩ := hrel
      obtain ⟨A3, c3, rfl, _, _⟩ := own_slice hown
      by_cases hlt : kf.length + k < 64
      · have HO := Lib.hid hown
        have HV := Lib.hid hb
        have hk1 : (kf.length : Int) + (k : Int) < 64 := by omega
        clear hown hb
        go_wp2_with (at_builtin; obtain ⟨v5, w5, hrun5, own5, grow5, at5⟩ := app_own byteE 22 (HO.out.alloc (.cells #[.int .u8 0] 5)) (A := some ⟨wr.heap.size, 0, none⟩) (news := bvals [0]) 1 1 (Rd.of_blk (cs := bvals [0]) (Blk.new wr 5 _) 0) rfl (bvals_one _) (by omega) (by unfold maxLen; omega) (by simp; exact Nat.le_succ_of_le HV.out.size); refine wpl_append rfl (.tmp 22) (.tmp 23) 22 22 rfl _ _ rfl rfl hrun5 ?_)
        go_roundw
        case rel =>
          refine ⟨k + 1, by omega, ?_, (HV.out.alloc HV.out.size _).grown grow5 (by simp; exact Nat.le_succ_of_le HV.out.size) (fun q hq => (HO.out.lt q hq).1)⟩
          rw [List.replicate_succ', ← List.append_assoc, bvals_append]
          exact own5
        case measure =>
          obtain ⟨A5, cap5, rfl, _⟩ := own_slice own5
          simp [lenW]
          omega
      · have hpd : Hid (kf ++ List.replicate k 0 = padTo64 kf) := by
          unfold Hid padTo64
          rw [show 64 - kf.length = k by omega]
        have hk64 : kf.length + k = 64 := by omega
        have hpl := padTo64_length kf hKF
        rw [hpd.out, hk64] at hown
        obtain ⟨g3, c3', h3, _, hgl, _⟩ := own_form hown (by decide)
        simp only [Value.slice.injEq] at h3
        obtain ⟨rfl, _, rfl⟩ := h3
        clear hpd
        have hkc : Hid (∀ j, j < 64 → wr.cell? ⟨g3, j, none⟩ = some (bval ((padTo64 kf).getD j 0))) := fun j hj => by
          rw [hown.cellAt j (by omega), bvals_at _ _ (by omega)]
        have HV := Lib.hid hb
        have HPL := Lib.hid hpl
        generalize hpad : padTo64 kf = pad at *
        have HPAD := Lib.hid hpad
        clear hown hb hpl hpad
        have hki : (kf.length : Int) + (k : Int) = 64 := by omega
        rw [hk64]
        clear hk hlt
        go_wp2_with fail
        clear hki
        obtain ⟨wo, rfl⟩ : ∃ wo : World, wo = wr := ⟨_, rfl⟩
        go_loopw [6, 7, 8] (fun u v i wx => ∃ q : Nat, q ≤ 64 ∧ i = .int .i64 (q : Int) ∧ wx.ownsRow wo.heap.size 5 1 u q (bvals (xorAll (pad.take q) 54)) ∧ wx.ownsRow wo.heap.size 5 1 v q (bvals (xorAll (pad.take q) 92)) ∧ Apart u v ∧ Below wo.heap.size wo wx) (fun _ _ i _ => 64 - (intOf i).toNat)
        case atStart => exact ⟨0, by omega, rfl, World.ownsRow_nil _ _ _ _, World.ownsRow_nil _ _ _ _, .inl rfl, Below.refl _ _⟩
        case round =>
          obtain ⟨q, hq, rfl, hown6, hown7, hap, hbel⟩ := hrel
          have HO6 := Lib.hid hown6
          have HO7 := Lib.hid hown7
          have HAP := Lib.hid hap
          have HBE := Lib.hid hbel
          by_cases hlt : q < 64
          · have hcell : wr.cell? ⟨g3, q, none⟩ = some (.int .u8 ((pad.getD q 0).toNat : Int)) := (hbel.cell (p := ⟨g3, q, none⟩) hgl).trans (hkc.out q hlt)
            have hx1 := Lib.hid (xorAll_take pad 54 q (by rw [HPL.out]; exact hlt))
            have hx2 := Lib.hid (xorAll_take pad 92 q (by rw [HPL.out]; exact hlt))
            have hlt' : (q : Int) < 64 := by omega
            clear hown6 hown7 hap hbel
            generalize pad.getD q 0 = x at hcell hx1 hx2
            have x1 := u8_xor54 x
            have x2 := u8_xor92 x
            go_wp2_with (first
              | (at_builtin; obtain ⟨v8, w8, hrun8, own8, grow8, at8⟩ := app_own byteE 22 (HO6.out.alloc (.cells #[.int .u8 ((x ^^^ 54).toNat : Int)] 5)) (A := some ⟨wr.heap.size, 0, none⟩) (news := bvals [x ^^^ 54]) 1 1 (Rd.of_blk (cs := bvals [x ^^^ 54]) (Blk.new wr 5 _) 0) rfl (bvals_one _) (by omega) (by unfold maxLen; omega) (by simp; exact Nat.le_succ_of_le HBE.out.size); refine wpl_append rfl (.tmp 29) (.tmp 35) 22 22 rfl _ _ rfl rfl hrun8 ?_; clear hrun8; have HB8 : Hid (Below wo.heap.size wo w8) := (HBE.out.alloc HBE.out.size _).grown grow8 (by simp; exact Nat.le_succ_of_le HBE.out.size) (fun g hg => (HO6.out.lt g hg).1); have hc8 : w8.cell? ⟨g3, q, none⟩ = some (.int .u8 (x.toNat : Int)) := ((HB8.out.cell (p := ⟨g3, q, none⟩) hgl).trans ((HBE.out.cell (p := ⟨g3, q, none⟩) hgl).symm)).trans hcell; have HO8 := Lib.hid own8; have HO78 := Lib.hid ((HO7.out.alloc (.cells #[.int .u8 ((x ^^^ 54).toNat : Int)] 5)).kept grow8 HAP.out.kept); have HAP8 : Hid (Apart v8 u7) := HAP.out.left at8 (fun g hg => by have := own_lt HO7.out g hg; simp; omega); clear own8 grow8 at8)
              | (at_builtin; obtain ⟨v9, w9, hrun9, own9, grow9, at9⟩ := app_own byteE 22 (HO78.out.alloc (.cells #[.int .u8 ((x ^^^ 92).toNat : Int)] 5)) (A := some ⟨w8.heap.size, 0, none⟩) (news := bvals [x ^^^ 92]) 1 1 (Rd.of_blk (cs := bvals [x ^^^ 92]) (Blk.new w8 5 _) 0) rfl (bvals_one _) (by omega) (by unfold maxLen; omega) (by simp; exact Nat.le_succ_of_le HB8.out.size); refine wpl_append rfl (.tmp 37) (.tmp 43) 22 22 rfl _ _ rfl rfl hrun9 ?_; clear hrun9))
            go_roundw
            case rel =>
              refine ⟨q + 1, by omega, by go_num, ?_, ?_, ?_, ?_⟩
              · rw [hx1.out, bvals_append]
                exact (HO8.out.alloc _).kept grow9 HAP8.out.symm.kept
              · rw [hx2.out, bvals_append]
                exact own9
              · exact (HAP8.out.symm.left at9 (fun g hg => by have := own_lt HO8.out g hg; simp; omega)).symm
              · exact (HB8.out.alloc HB8.out.size _).grown grow9 (by simp; exact Nat.le_succ_of_le HB8.out.size) (fun g hg => (HO78.out.lt g hg).1)
            case measure => simp [intOf]; omega
          · obtain rfl : q = 64 := by omega
            have htk : Hid (pad.take 64 = pad) := List.take_of_length_le (by rw [HPL.out]; exact Nat.le_refl _)
            rw [htk.out] at HO6 HO7
            have HBw : Hid (Below w.heap.size w wr) := HV.out.trans (HBE.out.mono HV.out.size)
            have HDR : Hid (Rd wr D (bvals data)) := HDA.out.below HBw.out
            have hzw := HV.out.size
            have hzo := HBE.out.size
            clear hown6 hown7 hap hbel hlt
            go_wp2_with (at_builtin; obtain ⟨v8, w8, hrun8, own8, grow8, at8⟩ := app_own byteE 22 HO6.out data.length dc HDR.out (by rw [bvals_length, Nat.mul_one]) (bvals_one data) (by omega) (by unfold maxLen; omega) HBE.out.size; obtain ⟨A8, c8, rfl, _, _⟩ := own_slice own8; refine wpl_append rfl (.tmp 45) (.tmp 46) 22 22 rfl _ _ rfl rfl hrun8 ?_)
            have HO8 := Lib.hid own8
            have HO78 := Lib.hid (HO7.out.kept grow8 HAP.out.kept)
            have HB8 : Hid (Below w.heap.size w w8) := HBw.out.grown grow8 (by omega) (fun g hg => by have := (HO6.out.lt g hg).1; omega)
            have hz8 := grow8.size
            clear hrun8 own8 grow8 at8
            generalize hX : xorAll pad 54 = X at *
            have HX := Lib.hid hX
            have hxl : X.length = 64 := by rw [← hX, xorAll_length]; exact HPL.out
            have hXD : (X ++ data).length = 64 + data.length := by rw [List.length_append, hxl]
            have HXD := Lib.hid hXD
            have HR8 : Hid (Rd w8 A8 (bvals (X ++ data))) := by
              rw [bvals_append]
              exact Rd.of_own HO8.out
            clear hX hxl hXD
            rw [← HXD.out]
            refine (rsum_any A8 c8 (X ++ data) w8 HR8.out (by rw [HXD.out]; omega)).mono ?_
            rintro e w9 ⟨v9, rfl, own9, b9⟩
            obtain ⟨A9, c9, rfl, _, _⟩ := own_slice own9
            have HO9 := Lib.hid own9
            have HO79 := Lib.hid (own_below HO78.out b9)
            have HB9 : Hid (Below w.heap.size w w9) := HB8.out.trans (b9.mono HB8.out.size)
            have hz9 := b9.size
            clear own9 b9 HO8 HO78
            have hdl' := sha_length (X ++ data)
            generalize hE : sha (X ++ data) = E at *
            have HE := Lib.hid hE
            have HEL := Lib.hid hdl'
            clear hE hdl'
            go_wp2_with (at_builtin; obtain ⟨v10, w10, hrun10, own10, grow10, at10⟩ := app_own byteE 22 HO79.out 32 c9 (Rd.of_own HO9.out) (by rw [bvals_length, Nat.mul_one, HEL.out]) (bvals_one E) (by omega) (by unfold maxLen; omega) (by omega); obtain ⟨A10, c10, rfl, _, _⟩ := own_slice own10; refine wpl_append rfl (.tmp 48) (.tmp 50) 22 22 rfl _ _ rfl rfl hrun10 ?_)
            generalize hY : xorAll pad 92 = Y at *
            have HY := Lib.hid hY
            have hyl : Y.length = 64 := by rw [← hY, xorAll_length]; exact HPL.out
            have hYE : (Y ++ E).length = 96 := by rw [List.length_append, hyl, HEL.out]
            have HYE := Lib.hid hYE
            have HR10 : Hid (Rd w10 A10 (bvals (Y ++ E))) := by
              rw [bvals_append]
              exact Rd.of_own own10
            have HB10 : Hid (Below w.heap.size w w10) := HB9.out.grown grow10 (by omega) (fun g hg => by have := (HO79.out.lt g hg).1; omega)
            clear hY hyl hYE own10 grow10 hrun10 at10
            rw [← HYE.out]
            refine (rsum_any A10 c10 (Y ++ E) w10 HR10.out (by rw [HYE.out]; omega)).mono ?_
            rintro e w11 ⟨v11, rfl, own11, b11⟩
            have HO11 : Hid (w11.ownsRow w.heap.size 5 1 v11 32 (bvals (sha (Y ++ E)))) := own_base own11 HB10.out.size
            have HB11 : Hid (Below w.heap.size w w11) := HB10.out.trans (b11.mono HB10.out.size)
            clear own11 b11
            go_wp2_with fail
            go_ret
            rw [HT.out]
            exact ⟨_, rfl, HO11.out, HB11.out⟩
end Go.Proofs.YtleeacgimikdbaaDoor
