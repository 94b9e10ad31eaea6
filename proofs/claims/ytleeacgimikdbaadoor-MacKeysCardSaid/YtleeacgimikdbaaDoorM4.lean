/- Contract of Tag. -/
import Derived.Test.YtleeacgimikdbaaDoorM3
namespace Go.Proofs.YtleeacgimikdbaaDoor
open Go.RowKit
attribute [local go_sem ↓] Go.wp_at_zero Go.wp_at_succ
section
variable {w w' : World} {base base' : Nat} {e : TypeId} {size : Nat} {v : Value} {n : Nat} {xs : List Value}
theorem own_below (h : w.ownsRow base e size v n xs) (hb : Below w.heap.size w w') : w'.ownsRow base e size v n xs := by
  refine ⟨h.1, ?_⟩
  rcases h.2 with h0 | ⟨g, cap, cur, h1, h2, h3, h4⟩
  · exact .inl h0
  · refine .inr ⟨g, cap, cur, h1, h2, (hb.block g ?_).trans h3, h4⟩
    rcases Nat.lt_or_ge g w.heap.size with hlt | hge
    · exact hlt
    · rw [Array.getElem?_eq_none hge] at h3; cases h3
end
theorem Rd.set_far {w : World} {g off : Nat} {xs : List Value} (h : Rd w (some ⟨g, off, none⟩) xs) {p : Addr} (hp : g ≠ p.block) (u : Value) : Rd (w.setCell p u) (some ⟨g, off, none⟩) xs := by
  rcases h with h | ⟨b, o, e, hlt, hc⟩
  · exact .inl h
  · simp only [Option.some.injEq, Addr.mk.injEq, and_true] at e
    obtain ⟨rfl, rfl⟩ := e
    exact .inr ⟨g, off, rfl, by simpa using hlt, fun j u' hu => (World.cell?_of_block (w := w) (a := ⟨g, off + j, none⟩) (Below.heap_setCell w p u g hp)).trans (hc j u' hu)⟩
theorem xorAll_length (l : List UInt8) (b : UInt8) : (xorAll l b).length = l.length := by simp [xorAll]
theorem with54 (kb : Nat) (A : Option Addr) (c : Nat) (key : List UInt8) (w : World) (hc : w.cell? ⟨kb, 0, none⟩ = some (.slice A key.length c)) (hk : Rd w A (bvals key)) (hl : key.length ≤ 64) :
    Calls Tryd.prog 35 #[.int .u8 54, .pointer (some ⟨kb, 0, none⟩)] w fun e w' => ∃ g, e = .returned (.slice (some ⟨g, 0, none⟩) 64 64) ∧ w'.ownsRow w.heap.size 5 1 (.slice (some ⟨g, 0, none⟩) 64 64) 64 (bvals (xorAll (padTo64 key) 54)) ∧ Below w.heap.size w w' :=
  with_any 54 kb A c key w hc hk hl
theorem with92 (kb : Nat) (A : Option Addr) (c : Nat) (key : List UInt8) (w : World) (hc : w.cell? ⟨kb, 0, none⟩ = some (.slice A key.length c)) (hk : Rd w A (bvals key)) (hl : key.length ≤ 64) :
    Calls Tryd.prog 35 #[.int .u8 92, .pointer (some ⟨kb, 0, none⟩)] w fun e w' => ∃ g, e = .returned (.slice (some ⟨g, 0, none⟩) 64 64) ∧ w'.ownsRow w.heap.size 5 1 (.slice (some ⟨g, 0, none⟩) 64 64) 64 (bvals (xorAll (padTo64 key) 92)) ∧ Below w.heap.size w w' :=
  with_any 92 kb A c key w hc hk hl
set_option maxRecDepth 100000 in
set_option maxHeartbeats 2000000 in
theorem tag_any (A P : Option Addr) (c pc : Nat) (key : List UInt8) (ps : List Pt) (w : World) (hk : Rd w A (bvals key)) (hkl : key.length ≤ 1000) (hr : Rps w P ps) (hn : ps.length ≤ 1000) (hj : (joined ps).length ≤ 100000) (hK : HasK w) :
    Calls Tryd.prog 23 #[.slice A key.length c, .slice P ps.length pc] w fun e w' => ∃ v, e = .returned v ∧ w'.ownsRow w.heap.size 5 1 v 32 (bvals (tagOf key (joined ps))) ∧ Below w.heap.size w w' := by
  have hKF := keyFor_le key
  have HT : Hid (tagOf key (joined ps) = sha (xorAll (padTo64 (keyFor key)) 92 ++ sha (xorAll (padTo64 (keyFor key)) 54 ++ joined ps))) := rfl
  have HK := Lib.hid hK
  have HR := Lib.hid hr
  have HA := Lib.hid hk
  clear hK hr hk
  generalize hm : ps.length = n at hn ⊢
  have HM := Lib.hid hm
  clear hm
  by_cases h64 : 64 < key.length
  have hkf : Hid (keyFor key = sha key) := if_pos h64
  have hd : decide (64 < (key.length : Int)) = true := by simp; omega
  go_enter Tryd.func23, Tryd.ntmps23
  go_wp2_with fail
  have hb0 := Lib.hid (Blk.new w 22 [.slice A key.length c])
  refine (sum_any A c key _ (HA.out.alloc _) (by omega) (HK.out.below ((Below.refl _ _).alloc (Nat.le_refl _) _))).mono ?_
  rintro e w1 ⟨v1, rfl, own1, b1⟩
  have hsz : (w.alloc (.cells #[.slice A key.length c] 22)).heap.size = w.heap.size + 1 := by simp
  rw [hsz] at own1 b1
  have hB1 : Blk w1 w.heap.size 22 [.slice A key.length c] := hb0.out.below b1 (Nat.lt_succ_self _)
  obtain ⟨g1, c1, rfl, hg1, hgl1, _⟩ := own_form own1 (by omega)
  have hcell : w1.cell? ⟨w.heap.size, 0, none⟩ = some (.slice A key.length c) := hB1.cell 0
  have hfz := hB1.frozen 0
  have hz1 := b1.size
  rw [hsz] at hz1
  have HO1 := Lib.hid own1
  have HBlk1 := Lib.hid hB1
  have HB1 : Hid (Below w.heap.size w w1) := ((Below.refl _ _).alloc (Nat.le_refl _) _).trans (b1.mono (Nat.le_succ _))
  clear own1 b1 hB1 hb0
  go_wp2_with fail
  clear hcell hfz
  have hk1 : Hid (Rd (w1.setCell ⟨w.heap.size, 0, none⟩ (.slice (some ⟨g1, 0, none⟩) 32 c1)) (some ⟨g1, 0, none⟩) (bvals (keyFor key))) := by
    rw [hkf.out]
    exact (Rd.of_own HO1.out).set_far (by simp; omega) _
  have hB2 : Hid (Below w.heap.size w (w1.setCell ⟨w.heap.size, 0, none⟩ (.slice (some ⟨g1, 0, none⟩) 32 c1))) := HB1.out.setCell (Nat.le_refl _) _
  have hcK : Hid ((w1.setCell ⟨w.heap.size, 0, none⟩ (.slice (some ⟨g1, 0, none⟩) 32 c1)).cell? ⟨w.heap.size, 0, none⟩ = some (.slice (some ⟨g1, 0, none⟩) (keyFor key).length c1)) := by
    rw [hkf.out, sha_length]
    exact ((HBlk1.out.set_ 0 _).cell 0)
  have hlt : w.heap.size < (w1.setCell ⟨w.heap.size, 0, none⟩ (.slice (some ⟨g1, 0, none⟩) 32 c1)).heap.size := by simp; omega
  generalize w1.setCell ⟨w.heap.size, 0, none⟩ (.slice (some ⟨g1, 0, none⟩) 32 c1) = Wk at *
  obtain ⟨KA, hKA⟩ : ∃ KA : Option Addr, KA = some ⟨g1, 0, none⟩ := ⟨_, rfl⟩
  rw [← hKA] at hk1 hcK
  obtain ⟨kc, hkc⟩ : ∃ kc : Nat, kc = c1 := ⟨_, rfl⟩
  rw [← hkc] at hcK
  clear hKA hkc HBlk1 HO1 HB1 hg1 hgl1 hz1 hsz
  rotate_left
  have hkf : Hid (keyFor key = key) := if_neg h64
  have hd : decide (64 < (key.length : Int)) = false := by simp; omega
  go_enter Tryd.func23, Tryd.ntmps23
  go_wp2_with fail
  have hb0 := Blk.new w 22 [.slice A key.length c]
  have hk1 : Hid (Rd (w.alloc (.cells #[.slice A key.length c] 22)) A (bvals (keyFor key))) := by
    rw [hkf.out]
    exact HA.out.alloc _
  have hB2 : Hid (Below w.heap.size w (w.alloc (.cells #[.slice A key.length c] 22))) := (Below.refl _ _).alloc (Nat.le_refl _) _
  have hcK : Hid ((w.alloc (.cells #[.slice A key.length c] 22)).cell? ⟨w.heap.size, 0, none⟩ = some (.slice A (keyFor key).length c)) := by
    rw [hkf.out]
    exact hb0.cell 0
  have hlt : w.heap.size < (w.alloc (.cells #[.slice A key.length c] 22)).heap.size := by simp
  clear hb0
  generalize w.alloc (.cells #[.slice A key.length c] 22) = Wk at *
  obtain ⟨KA, hKA⟩ : ∃ KA : Option Addr, KA = A := ⟨_, rfl⟩
  rw [← hKA] at hk1 hcK
  obtain ⟨kc, hkc⟩ : ∃ kc : Nat, kc = c := ⟨_, rfl⟩
  rw [← hkc] at hcK
  clear hKA hkc
  rotate_left
  all_goals
    clear hd h64 hkf
    generalize hkf' : keyFor key = kf at *
    clear hkf'
    have hpl := padTo64_length kf hKF
    refine (with54 w.heap.size KA kc kf Wk hcK.out hk1.out hKF).mono ?_
    rintro e w2 ⟨g2, rfl, own2, b2⟩
    have HO2 := Lib.hid own2
    have HB2 := Lib.hid b2
    clear own2 b2
    go_wp2_with fail
    have hJ : Hid (joined ps = joined ps) := rfl
    generalize hX : xorAll (padTo64 kf) 54 = X at *
    have HX := Lib.hid hX
    clear hX hJ
    have HRk : Hid (Rps Wk P ps) := HR.out.below hB2.out
    go_loopw [6, 19] (fun v i wr => ∃ k : Nat, k ≤ n ∧ i = .int .i64 (k : Int) ∧ wr.ownsRow Wk.heap.size 5 1 v (64 + (joined (ps.take k)).length) (bvals (X ++ joined (ps.take k))) ∧ Below Wk.heap.size Wk wr) (fun _ i _ => n - (intOf i).toNat)
    case atStart => exact ⟨0, by omega, rfl, by simpa [joined] using HO2.out, HB2.out⟩
    case round =>
      clear HO2 HB2
      obtain ⟨k, hk, rfl, hown, hb⟩ := hrel
      by_cases hkn : k < n
      · have hrr := HRk.out.below hb
        obtain ⟨b, off, rfl, _, hcell⟩ := hrr.at_ (j := k) (by rw [HM.out]; exact hkn)
        have hok := hrr.each _ (List.getElem_mem (h := by rw [HM.out]; exact hkn))
        have hx := Lib.hid (joined_take ps k (by rw [HM.out]; exact hkn))
        have hle := joined_take_le ps (k + 1)
        rw [hx.out, List.length_append] at hle
        generalize ps[k]'(by rw [HM.out]; exact hkn) = p at hcell hok hx hle
        obtain ⟨A2, bs, cp⟩ := p
        unfold Pt.val at hcell
        simp only at hcell hle
        generalize hJ : (joined (ps.take k)) = J at hown hx hle
        have HO := Lib.hid hown
        have HV := Lib.hid hb
        have HR2 : Hid (Rd wr A2 (bvals bs)) := hok.rd
        have hk1 : (k : Int) < (n : Int) := by omega
        clear hown hb hrr hok hJ
        go_wp2_with (at_builtin; obtain ⟨v5, w5, hrun5, own5, grow5, at5⟩ := app_own byteE 22 HO.out bs.length cp HR2.out (by rw [bvals_length, Nat.mul_one]) (bvals_one bs) (by omega) (by unfold maxLen; omega) HV.out.size; refine wpl_append rfl (.tmp 23) (.tmp 24) 22 22 rfl _ _ rfl rfl hrun5 ?_)
        go_roundw
        case rel =>
          refine ⟨k + 1, by omega, by go_num, ?_, HV.out.grown grow5 HV.out.size (fun q hq => (HO.out.lt q hq).1)⟩
          rw [hx.out, ← List.append_assoc, bvals_append _ bs, List.length_append, ← Nat.add_assoc]
          exact own5
        case measure => simp [intOf]; omega
      · obtain rfl : k = n := by omega
        rw [List.take_of_length_le (by rw [HM.out]; exact Nat.le_refl _)] at hown
        generalize hJ : joined ps = J at *
        have HJ := Lib.hid hJ
        obtain ⟨A6, c6, rfl, _, _⟩ := own_slice hown
        have HO := Lib.hid hown
        have HV := Lib.hid hb
        have hxl : X.length = 64 := by rw [← HX.out, xorAll_length]; exact hpl
        have hXJ : (X ++ J).length = 64 + J.length := by rw [List.length_append, hxl]
        have hcR : Hid (wr.cell? ⟨w.heap.size, 0, none⟩ = some (.slice KA kf.length kc)) := (hb.cell (p := ⟨w.heap.size, 0, none⟩) hlt).trans hcK.out
        have hkR : Hid (Rd wr KA (bvals kf)) := hk1.out.below hb
        have hzR := hb.size
        clear hown hb hJ hk1 hcK hkn
        have HL := Lib.hid hXJ
        clear hXJ
        go_wp2_with fail
        refine (with92 w.heap.size KA kc kf wr hcR.out hkR.out hKF).mono ?_
        rintro e w3 ⟨g3, rfl, own3, b3⟩
        have HO3 := Lib.hid own3
        have HB3 := Lib.hid b3
        have hz3 := b3.size
        have HI3 := Lib.hid (own_below HO.out b3)
        clear own3 b3 hcR hkR
        go_wp2_with fail
        rw [← HL.out]
        have HB3' : Hid (Below w.heap.size w w3) := (hB2.out.trans (HV.out.mono (by omega))).trans (HB3.out.mono (by omega))
        have HRI : Hid (Rd w3 A6 (bvals (X ++ J))) := Rd.of_own (n := 64 + J.length) HI3.out
        refine (sum_any A6 c6 (X ++ J) w3 HRI.out (by rw [HL.out]; omega) (HK.out.below HB3'.out)).mono ?_
        rintro e w4 ⟨v4, rfl, own4, b4⟩
        obtain ⟨g4, c4, rfl, _, _, _⟩ := own_form own4 (by omega)
        have HO4 := Lib.hid own4
        have HB4 := Lib.hid b4
        have hz4 := b4.size
        have HI4 := Lib.hid (own_below HO3.out b4)
        clear own4 b4
        have hD : Hid (sha (X ++ J) = sha (X ++ J)) := rfl
        have hDl := sha_length (X ++ J)
        generalize hD' : sha (X ++ J) = D at *
        have HD := Lib.hid hD'
        generalize hY' : xorAll (padTo64 kf) 92 = Y at *
        have HY := Lib.hid hY'
        have hyl : Y.length = 64 := by rw [← HY.out, xorAll_length]; exact hpl
        have hYD : (Y ++ D).length = 96 := by rw [List.length_append, hyl, hDl]
        have HYD := Lib.hid hYD
        have HDL := Lib.hid hDl
        clear hD hDl hD' hY' hyl hYD hpl
        go_wp2_with (at_builtin; obtain ⟨v5, w5, hrun5, own5, grow5, at5⟩ := app_own byteE 22 HI4.out 32 c4 (Rd.of_own HO4.out) (by rw [bvals_length, Nat.mul_one, HDL.out]) (bvals_one D) (by omega) (by unfold maxLen; omega) (by omega); obtain ⟨A5, c5, rfl, _, _⟩ := own_slice own5; refine wpl_append rfl (.tmp 28) (.tmp 30) 22 22 rfl _ _ rfl rfl hrun5 ?_)
        rw [← HYD.out]
        have HO5 := Lib.hid own5
        have HB5 : Hid (Below w.heap.size w w5) := (HB3'.out.trans (HB4.out.mono (by omega))).grown grow5 (by have := HB3'.out.size; omega) (fun q hq => by have := (HI4.out.lt q hq).1; omega)
        have HR5 : Hid (Rd w5 A5 (bvals (Y ++ D))) := by
          rw [bvals_append]
          exact Rd.of_own HO5.out
        clear own5 grow5 hrun5 at5
        refine (sum_any A5 c5 (Y ++ D) w5 HR5.out (by rw [HYD.out]; omega) (HK.out.below HB5.out)).mono ?_
        rintro e w6 ⟨v6, rfl, own6, b6⟩
        have HO6 : Hid (w6.ownsRow w.heap.size 5 1 v6 32 (bvals (sha (Y ++ D)))) := own_base own6 HB5.out.size
        have HB6 : Hid (Below w.heap.size w w6) := HB5.out.trans (b6.mono HB5.out.size)
        clear own6 b6
        go_wp2_with fail
        go_ret
        rw [HJ.out, HT.out]
        exact ⟨_, rfl, HO6.out, HB6.out⟩
end Go.Proofs.YtleeacgimikdbaaDoor
