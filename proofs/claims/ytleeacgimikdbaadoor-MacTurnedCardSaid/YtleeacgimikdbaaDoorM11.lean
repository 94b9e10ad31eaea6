/- The laws of tags: Turned. -/
import Derived.Test.YtleeacgimikdbaaDoorM8
namespace Go.Proofs.YtleeacgimikdbaaDoor
open Go.RowKit
attribute [local go_sem ↓] Go.wp_at_zero Go.wp_at_succ
theorem xor_self_iff (x b : UInt8) : x ^^^ b = x ↔ b = 0 := by
  constructor
  · intro h
    have : x ^^^ (x ^^^ b) = x ^^^ x := by rw [h]
    rw [← UInt8.xor_assoc, UInt8.xor_self, UInt8.zero_xor] at this
    exact this
  · rintro rfl; simp
theorem turned_same (T : List UInt8) (a : Nat) (b : UInt8) (h : a < T.length) : sameB (T.set a (T.getD a 0 ^^^ b)) T = decide (b = 0) := by
  unfold sameB
  rw [decide_eq_decide]
  have hg : T.getD a 0 = T[a] := by rw [List.getD_eq_getElem?_getD, List.getElem?_eq_getElem h]; rfl
  rw [hg]
  constructor
  · intro e
    have : (T.set a (T[a] ^^^ b))[a]? = T[a]? := by rw [e]
    rw [List.getElem?_set_self h, List.getElem?_eq_getElem h] at this
    exact (xor_self_iff _ b).1 (Option.some.inj this)
  · rintro rfl
    simp
theorem bvals_set (T : List UInt8) (a : Nat) (x : UInt8) : (bvals T).set a (bval x) = bvals (T.set a x) := by simp [bvals, List.map_set]
theorem b0 (b : UInt8) (h : b = 0) : ((b.toNat : Int) == 0) = true := by subst h; rfl
theorem b1 (b : UInt8) (h : ¬ b = 0) : ((b.toNat : Int) == 0) = false := by
  rw [beq_eq_false_iff_ne]
  intro e
  exact h (UInt8.toNat_inj.1 (by have : (0 : UInt8).toNat = 0 := rfl; omega))
theorem neg_mod (z : Int) (m : Nat) (hm : 0 < m) : ∃ a : Nat, a < m ∧ ((z < 0 ∧ -(z + 1).tmod (m : Int) = (a : Int)) ∨ (¬ z < 0 ∧ z % (m : Int) = (a : Int))) := by
  by_cases hn : z < 0
  · refine ⟨((-(z + 1)) % (m : Int)).toNat, ?_, .inl ⟨hn, ?_⟩⟩
    · have := Int.emod_lt_of_pos (-(z + 1)) (show (0 : Int) < m by omega)
      have := Int.emod_nonneg (-(z + 1)) (show (m : Int) ≠ 0 by omega)
      omega
    · rw [← Int.neg_tmod, Int.tmod_eq_emod_of_nonneg (by omega)]
      have := Int.emod_nonneg (-(z + 1)) (show (m : Int) ≠ 0 by omega)
      omega
  · refine ⟨(z % (m : Int)).toNat, ?_, .inr ⟨hn, ?_⟩⟩
    · have := Int.emod_lt_of_pos z (show (0 : Int) < m by omega)
      have := Int.emod_nonneg z (show (m : Int) ≠ 0 by omega)
      omega
    · have := Int.emod_nonneg z (show (m : Int) ≠ 0 by omega)
      omega
set_option maxRecDepth 100000 in
set_option maxHeartbeats 4000000 in
theorem macTurned_any (A P : Option Addr) (c pc : Nat) (kb : List UInt8) (ps : List Pt) (at_ len : Int) (b : UInt8) (w : World) (hr : Rd w A (bvals kb)) (hc : kb.length ≤ c) (hm : c ≤ maxLen) (hp : Rps w P ps) (hpl : ps.length ≤ maxLen) (ha1 : -9223372036854775808 ≤ at_) (ha2 : at_ ≤ 9223372036854775807) (hl1 : -9223372036854775808 ≤ len) (hl2 : len ≤ 9223372036854775807) (hk : HasK w) :
    Calls Tryd.prog 10 #[.slice A kb.length c, .slice P ps.length pc, .int .i64 at_, .int .u8 (b.toNat : Int), .int .i64 len] w fun e w' => e = .returned (.bool true) ∧ Below w.heap.size w w' := by
  have HP := Lib.hid hp
  have HK := Lib.hid hk
  have hkl := take150 kb
  have HR := Lib.hid (hr.takeB ((150 : Int).toNat))
  obtain ⟨a, ha32, na⟩ := neg_mod at_ 32 (by decide)
  obtain ⟨l, hl32, nl⟩ := neg_mod len 32 (by decide)
  have NA := Lib.hid na
  have NL := Lib.hid nl
  clear hp hk hr na nl
  go_enter Tryd.func10, Tryd.ntmps10
  go_wp2_with fail
  refine (few2_bs A kb c 150 w hc hm (by decide) (by decide)).mono ?_
  rintro e w1 ⟨rfl, rfl⟩
  clear hc
  generalize kb.take ((150 : Int).toNat) = key at *
  go_wp2_with fail
  refine (cut_any P pc ps w HP.out hpl).mono ?_
  rintro e w2 ⟨v2, rfl, own2, b2⟩
  obtain ⟨A2, c2, hv2, _, _⟩ := own_slice own2
  have HQ : Hid (Rps w2 A2 (cutAll ps)) := Rps.of_own own2 hv2 (cutAll_ok fun p hp => (HP.out.each p hp).below b2)
  have hql := cutAll_length ps
  have hqj := cutAll_joined ps
  subst hv2
  have HB2 := Lib.hid b2
  have HR2 : Hid (Rd w2 A (bvals key)) := HR.out.below b2
  clear own2 b2 HP HR hpl
  generalize cutAll ps = qs at *
  go_wp2_with fail
  refine (tag_any A A2 c c2 key qs w2 HR2.out hkl HQ.out (by omega) (by omega) (HK.out.below HB2.out)).mono ?_
  rintro e w3 ⟨v3, rfl, own3, b3⟩
  obtain ⟨g3, c3, rfl, _, hgl3, hc3⟩ := own_form own3 (by omega)
  have HB3 : Hid (Below w.heap.size w w3) := HB2.out.trans (b3.mono HB2.out.size)
  have HR3 : Hid (Rd w3 A (bvals key)) := HR2.out.below b3
  have HQ3 : Hid (Rps w3 A2 qs) := HQ.out.below b3
  have HL := Lib.hid (tagOf_length key (joined qs))
  have HT3 : Hid (Rd w3 (some ⟨g3, 0, none⟩) (bvals (tagOf key (joined qs)))) := Rd.of_own own3
  generalize hW : tagOf key (joined qs) = T at *
  have HW := Lib.hid hW
  clear own3 b3 HB2 HR2 HQ hW
  have HU2 : Hid (sameB (T.take l) T = false) := sameB_len _ _ (by rw [List.length_take, HL.out]; omega)
  have HV2 : Hid (sameB (T ++ [b]) T = false) := sameB_len _ _ (by rw [List.length_append]; simp)
  have hUl : (T.take l).length = l := by rw [List.length_take, HL.out]; omega
  have HTU : Hid (∀ w A, Rd w A (bvals T) → Rd w A (bvals (T.take l))) := fun w A h => h.takeB l
  generalize hU : T.take l = U at *
  clear hU
  obtain rfl := hUl
  have hdn : sameB (T.set a (T.getD a 0 ^^^ b)) T = decide (b = 0) := turned_same T a b (by rw [HL.out]; exact ha32)
  have hxx := u8_xor (T.getD a 0) b
  have HSL : Hid ((T.set a (T.getD a 0 ^^^ b)).length = 32) := by unfold Hid; rw [List.length_set]; exact HL.out
  have HSV : Hid ((bvals T).set a (bval (T.getD a 0 ^^^ b)) = bvals (T.set a (T.getD a 0 ^^^ b))) := bvals_set T a _
  have HSC : Hid ((bvals T)[a]? = some (bval (T.getD a 0))) := bvals_at T a (by rw [HL.out]; exact ha32)
  generalize T.set a (T.getD a 0 ^^^ b) = S at *
  generalize T.getD a 0 = x at *
  have HDN := Lib.hid hdn
  clear hdn
  have ha0 : (0 : Int) ≤ (a : Int) := by omega
  have ha3 : (a : Int) < 32 := by omega
  rcases NA.out with ⟨na, nae⟩ | ⟨na, nae⟩ <;> rcases NL.out with ⟨nl, nle⟩ | ⟨nl, nle⟩
  all_goals
    rw [show ((32 : Nat) : Int) = 32 from rfl] at nae nle
    go_wp2_with (at_builtin; obtain ⟨v5, w5, hrun5, own5, grow5, at5⟩ := app_own byteE 22 (World.ownsRow_nil w3 w3.heap.size 5 1) 32 c3 HT3.out (by rw [bvals_length, HL.out]) (bvals_one _) (by omega) (by unfold maxLen; omega) (Nat.le_refl _); simp only [Nat.zero_add, List.nil_append] at own5; obtain ⟨g5, c5, rfl, hg5, hgl5, hc5⟩ := own_form own5 (by omega); obtain ⟨cs, hB5, hcs, hct⟩ := own_blk own5; have hcell5 : w5.cell? ⟨g5, a, none⟩ = some (.int .u8 (x.toNat : Int)) := (own5.cellAt a (by omega)).trans HSC.out; have hfz5 := hB5.frozen a; refine wpl_append rfl (.tmp 34) (.tmp 35) 22 22 rfl _ _ rfl rfl hrun5 ?_; clear hrun5)
    have HXY : Hid (((x.toNat ^^^ b.toNat : Nat) : Int) = ((x ^^^ b).toNat : Int)) := by unfold Hid; rw [UInt8.toNat_xor]
    rw [HXY.out]
    have hS : Rd (w5.setCell ⟨g5, a, none⟩ (.int .u8 ((x ^^^ b).toNat : Int))) (some ⟨g5, 0, none⟩) (bvals S) := by
      have h1 := (Rd.of_blk (hB5.set_ a (bval (x ^^^ b))) 0).take 32
      rw [List.drop_zero, List.take_set, hct, HSV.out] at h1
      exact h1
    have b6 : Below w3.heap.size w3 (w5.setCell ⟨g5, a, none⟩ (.int .u8 ((x ^^^ b).toNat : Int))) := ((Below.refl _ _).grown grow5 (Nat.le_refl _) (by simp [Value.ownBlock])).setCell hg5 _
    generalize w5.setCell ⟨g5, a, none⟩ (.int .u8 ((x ^^^ b).toNat : Int)) = w6 at *
    have HS6 := Lib.hid hS
    have HB6 : Hid (Below w.heap.size w w6) := HB3.out.trans (b6.mono HB3.out.size)
    have HR6 : Hid (Rd w6 A (bvals key)) := HR3.out.below b6
    have HT6 : Hid (Rd w6 (some ⟨g3, 0, none⟩) (bvals T)) := HT3.out.below b6
    have HQ6 : Hid (Rps w6 A2 qs) := HQ3.out.below b6
    clear hS b6 own5 grow5 at5 hg5 hgl5 hB5 hcs hct hcell5 hfz5 HB3 HR3 HT3 HQ3 hxx HXY HSV HSC
    rw [← HSL.out]
    refine (right_any A (some ⟨g5, 0, none⟩) A2 c c5 c2 key S qs w6 HR6.out hkl HS6.out HQ6.out (by omega) (by omega) (HK.out.below HB6.out)).mono ?_
    rintro e w7 ⟨rfl, b7⟩
    rw [HW.out, HDN.out, HSL.out]
    have HB7 : Hid (Below w.heap.size w w7) := HB6.out.trans (b7.mono HB6.out.size)
    have HR7 : Hid (Rd w7 A (bvals key)) := HR6.out.below b7
    have HT7 : Hid (Rd w7 (some ⟨g3, 0, none⟩) (bvals T)) := HT6.out.below b7
    have HQ7 : Hid (Rps w7 A2 qs) := HQ6.out.below b7
    clear b7 HB6 HR6 HT6 HQ6 HS6
    obtain ⟨t0, ht0, ht1⟩ : ∃ t0 : Bool, decide (b = 0) = t0 ∧ ((b.toNat : Int) == 0) = t0 := by
      by_cases hb : b = 0
      · exact ⟨true, by simp [hb], b0 b hb⟩
      · exact ⟨false, by simp [hb], b1 b hb⟩
    rw [ht0]
    have hl0 : ((U.length : Nat) : Int) ≤ (c3 : Int) := by omega
    have hl00 : (0 : Int) ≤ ((U.length : Nat) : Int) := by omega
    clear ht0
    have htt : (t0 != t0) = false := by simp
    go_wp2_with (first
      | (at_builtin; obtain ⟨v8, w8, hrun8, own8, grow8, at8⟩ := app_own byteE 22 (World.ownsRow_nil w7 w7.heap.size 5 1) 32 c3 HT7.out (by rw [bvals_length, HL.out]) (bvals_one _) (by omega) (by unfold maxLen; omega) (Nat.le_refl _); simp only [Nat.zero_add, List.nil_append] at own8; refine wpl_append rfl (.tmp 55) (.tmp 56) 22 22 rfl _ _ rfl rfl hrun8 ?_; clear hrun8; have HB78 : Hid (Below w7.heap.size w7 w8) := (Below.refl _ _).grown grow8 (Nat.le_refl _) (by simp [Value.ownBlock]))
      | (at_builtin; obtain ⟨v9, w9, hrun9, own9, grow9, at9⟩ := app_own byteE 22 (own8.alloc (.cells #[.int .u8 (b.toNat : Int)] 5)) (A := some ⟨w8.heap.size, 0, none⟩) (news := bvals [b]) 1 1 (Rd.of_blk (cs := bvals [b]) (Blk.new w8 5 _) 0) rfl (bvals_one _) (by omega) (by unfold maxLen; omega) (by simp; exact Nat.le_succ_of_le HB78.out.size); refine wpl_append rfl (.tmp 58) (.tmp 60) 22 22 rfl _ _ rfl rfl hrun9 ?_; clear hrun9))
    have b9 : Below w7.heap.size w7 w9 := (HB78.out.alloc HB78.out.size _).grown grow9 (by simp; exact Nat.le_succ_of_le HB78.out.size) (fun g hg => (own8.lt g hg).1)
    obtain ⟨A9, c9, rfl, _, _⟩ := own_slice own9
    have HB9 : Hid (Below w.heap.size w w9) := HB7.out.trans (b9.mono HB7.out.size)
    have HR9 : Hid (Rd w9 A (bvals key)) := HR7.out.below b9
    have HT9 : Hid (Rd w9 (some ⟨g3, 0, none⟩) (bvals U)) := HTU.out _ _ (HT7.out.below b9)
    have HQ9 : Hid (Rps w9 A2 qs) := HQ7.out.below b9
    have HN9 : Hid (Rd w9 A9 (bvals (T ++ [b]))) := by
      rw [bvals_append]
      exact Rd.of_own own9
    clear b9 own8 own9 grow8 grow9 at8 at9 HB7 HR7 HT7 HQ7 HB78 htt hl0 hl00
    refine (right_any A (some ⟨g3, 0, none⟩) A2 c c3 c2 key U qs w9 HR9.out hkl HT9.out HQ9.out (by omega) (by omega) (HK.out.below HB9.out)).mono ?_
    rintro e w10 ⟨rfl, b10⟩
    rw [HW.out, HU2.out]
    have HB10 : Hid (Below w.heap.size w w10) := HB9.out.trans (b10.mono HB9.out.size)
    have HR10 : Hid (Rd w10 A (bvals key)) := HR9.out.below b10
    have HN10 : Hid (Rd w10 A9 (bvals (T ++ [b]))) := HN9.out.below b10
    have HQ10 : Hid (Rps w10 A2 qs) := HQ9.out.below b10
    have HVL : Hid ((T ++ [b]).length = 33) := by unfold Hid; rw [List.length_append, HL.out]; rfl
    clear b10 HB9 HR9 HN9 HQ9 HT9
    generalize T ++ [b] = V at *
    go_wp2_with fail
    rw [← HVL.out]
    refine (right_any A A9 A2 c c9 c2 key V qs w10 HR10.out hkl HN10.out HQ10.out (by omega) (by omega) (HK.out.below HB10.out)).mono ?_
    rintro e w11 ⟨rfl, b11⟩
    rw [HW.out, HV2.out]
    have HB11 : Hid (Below w.heap.size w w11) := HB10.out.trans (b11.mono HB10.out.size)
    clear b11 HB10 HR10 HN10 HQ10
    go_wp2_with fail
    refine (lives2_any _ (HK.out.below HB11.out)).mono ?_
    rintro e w12 ⟨rfl, b12⟩
    have HB12 : Hid (Below w.heap.size w w12) := HB11.out.trans (b12.mono HB11.out.size)
    go_wp2_with fail
    go_ret
    exact ⟨rfl, HB12.out⟩
end Go.Proofs.YtleeacgimikdbaaDoor
