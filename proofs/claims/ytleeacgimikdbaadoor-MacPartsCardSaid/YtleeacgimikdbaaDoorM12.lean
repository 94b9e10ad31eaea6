/- The laws of tags: Parts. -/
import Derived.Test.YtleeacgimikdbaaDoorM11
import Derived.Deep.RegionWith
namespace Go.Proofs.YtleeacgimikdbaaDoor
open Go.RowKit
attribute [local go_sem ↓] Go.wp_at_zero Go.wp_at_succ
theorem slice_hi (A : Option Addr) (n c a : Nat) (h : a ≤ c) (w : World) : (Instr.slice 22 (.slice A n c) none (some (.int .i64 (a : Int))) none).run Tryd.prog w = .ok (.slice A a c) w := by
  obtain ⟨i, hi, _, hs, _⟩ := byteE.hi
  have e : A.map (fun x : Addr => x.add 0) = A := by cases A <;> rfl
  simp [Instr.slice, run_underlying Tryd.underlying22, Instr.sliceBounds, Instr.sliceBound, asIntOf, sizeOf, typeInfo, hi, e]
  intro; omega
theorem slice_lo (A : Option Addr) (n c a : Nat) (h : a ≤ n) (w : World) : (Instr.slice 22 (.slice A n c) (some (.int .i64 (a : Int))) none none).run Tryd.prog w = .ok (.slice (if c = a then A else A.map (fun x => x.add a)) (n - a) (c - a)) w := by
  obtain ⟨i, hi, _, hs, _⟩ := byteE.hi
  simp [Instr.slice, run_underlying Tryd.underlying22, Instr.sliceBounds, Instr.sliceBound, asIntOf, sizeOf, typeInfo, hi, hs]
  intro; omega
theorem at22 (v : Value) (lo hi : Option Value) (w : World) : (Instr.sliceAt 22 v lo hi none).run Tryd.prog w = (Instr.slice 22 v lo hi none).run Tryd.prog w := by
  simp [Instr.sliceAt, run_underlying Tryd.underlying22]
theorem Rd.cut {w : World} {A : Option Addr} {J : List UInt8} (h : Rd w A (bvals J)) {a c : Nat} (hc : J.length ≤ c) : Rd w (if c = a then A else A.map (fun x => x.add a)) (bvals (J.drop a)) := by
  rw [bvals_drop]
  refine h.drop (fun hlt b off hA => ?_)
  rw [bvals_length] at hlt
  rw [if_neg (by omega), hA]
  simp [Addr.add_lit]
theorem parts3 {w : World} {A4 A9 : Option Addr} {c4 c9 a n : Nat} {X Y : List UInt8} (hX : Rd w A4 (bvals X)) (hY : Rd w A9 (bvals Y)) (hXl : X.length = a) (hYl : Y.length = n) (h1 : a ≤ c4) (h2 : c4 ≤ maxLen) (h3 : n ≤ c9) (h4 : c9 ≤ maxLen) :
    Rps (w.alloc (.cells #[.slice A4 a c4, .slice none 0 0, .slice A9 n c9] 22)).drew (some ⟨w.heap.size, 0, none⟩) [⟨A4, X, c4⟩, ⟨none, [], 0⟩, ⟨A9, Y, c9⟩] := by
  have e : pvals [⟨A4, X, c4⟩, ⟨none, [], 0⟩, ⟨A9, Y, c9⟩] = [.slice A4 a c4, .slice none 0 0, .slice A9 n c9] := by
    simp only [pvals, List.map_cons, List.map_nil, Pt.val, hXl, hYl]
    rfl
  refine ⟨?_, fun p hp => ?_⟩
  · rw [e]
    exact (Rd.of_blk (Blk.new w 22 _) 0).drew
  · simp only [List.mem_cons, List.not_mem_nil, or_false] at hp
    rcases hp with rfl | rfl | rfl
    · exact ⟨(hX.alloc _).drew, by rw [hXl]; exact h1, h2⟩
    · exact ⟨Rd.nil _ _, by simp, by simp⟩
    · exact ⟨(hY.alloc _).drew, by rw [hYl]; exact h3, h4⟩
set_option maxRecDepth 100000 in
set_option maxHeartbeats 4000000 in
theorem macParts_any (A P : Option Addr) (c pc : Nat) (kb : List UInt8) (ps : List Pt) (at_ : Int) (w : World) (hr : Rd w A (bvals kb)) (hc : kb.length ≤ c) (hm : c ≤ maxLen) (hp : Rps w P ps) (hpl : ps.length ≤ maxLen) (ha1 : -9223372036854775808 ≤ at_) (ha2 : at_ ≤ 9223372036854775807) (hk : HasK w) :
    Calls Tryd.prog 11 #[.slice A kb.length c, .slice P ps.length pc, .int .i64 at_] w fun e w' => e = .returned (.bool true) ∧ Below w.heap.size w w' := by
  have HP := Lib.hid hp
  have HK := Lib.hid hk
  have hkl := take150 kb
  have HR := Lib.hid (hr.takeB ((150 : Int).toNat))
  clear hp hk hr
  go_enter Tryd.func11, Tryd.ntmps11
  go_wp2_with fail
  refine (few2_bs A kb c 150 w hc hm (by decide) (by decide)).mono ?_
  rintro e w1 ⟨rfl, rfl⟩
  clear hc
  generalize kb.take ((150 : Int).toNat) = key at *
  go_wp2_with fail
  refine (cut_any P pc ps w HP.out hpl).mono ?_
  rintro e w2 ⟨v2, rfl, own2, b2⟩
  obtain ⟨A2, c2, hv2, _, _⟩ := own_slice own2
  have HQ : Hid (Rps w2 A2 (cutAll ps)) := Rps.of_own own2 hv2 (cutAll_ok fun p hp => (HP.out.each p hp).below b2)
  have hql := cutAll_length ps
  have hqj := cutAll_joined ps
  subst hv2
  have HB2 := Lib.hid b2
  have HR2 : Hid (Rd w2 A (bvals key)) := HR.out.below b2
  clear own2 b2 HP HR hpl
  generalize cutAll ps = qs at *
  go_wp2_with fail
  refine (joined_any A2 c2 qs w2 HQ.out (by omega) (by omega)).mono ?_
  rintro e w4 ⟨v4, rfl, own4, b4⟩
  have HB4 : Hid (Below w.heap.size w w4) := HB2.out.trans (b4.mono HB2.out.size)
  have HR4 : Hid (Rd w4 A (bvals key)) := HR2.out.below b4
  have HQ4 : Hid (Rps w4 A2 qs) := HQ.out.below b4
  have HO4 := Lib.hid own4
  clear own4 b4 HB2 HR2 HQ
  generalize hJ : joined qs = J at *
  have HJ := Lib.hid hJ
  obtain ⟨a, haJ, na⟩ := neg_mod at_ (J.length + 1) (by omega)
  rw [show ((J.length + 1 : Nat) : Int) = (J.length : Int) + 1 by omega] at na
  have NA := Lib.hid na
  clear hJ na
  obtain ⟨A4, c4, hv4, hJc, hcm⟩ := own_slice HO4.out
  subst hv4
  have HJ4 : Hid (Rd w4 A4 (bvals J)) := Rd.of_own HO4.out
  have hm1 : (0 : Int) < (J.length : Int) + 1 := by omega
  have hm2 : (J.length : Int) + 1 ≠ 0 := by omega
  rcases NA.out with ⟨na, nae⟩ | ⟨na, nae⟩
  all_goals
    go_wp2_with fail
    (try rw [nae])
    clear na nae hm1 hm2
    refine (tag_any A A2 c c2 key qs w4 HR4.out hkl HQ4.out (by omega) (by rw [HJ.out]; omega) (HK.out.below HB4.out)).mono ?_
    rintro e w5 ⟨v5, rfl, own5, b5⟩
    obtain ⟨A5, c5, rfl, _, _⟩ := own_slice own5
    rw [HJ.out] at own5
    have HB5 : Hid (Below w.heap.size w w5) := HB4.out.trans (b5.mono HB4.out.size)
    have HR5 : Hid (Rd w5 A (bvals key)) := HR4.out.below b5
    have HT5 : Hid (Rd w5 A5 (bvals (tagOf key J))) := Rd.of_own own5
    have HJ5 : Hid (Rd w5 A4 (bvals J)) := HJ4.out.below b5
    have HL := Lib.hid (tagOf_length key J)
    clear own5 b5 HB4 HR4 HQ4
    go_wp2_with fail
    generalize hW : w5.alloc _ = w6
    have b6 : Below w5.heap.size w5 w6 := by rw [← hW]; exact (Below.refl _ _).alloc (Nat.le_refl _) _
    have HPs : Hid (Rps w6 (some ⟨w5.heap.size, 0, none⟩) [⟨A4, J, c4⟩]) := by
      refine ⟨?_, fun p hp => ?_⟩
      · rw [← hW]
        exact Rd.of_blk (cs := pvals [⟨A4, J, c4⟩]) (Blk.new w5 22 _) 0
      · obtain rfl := List.mem_singleton.1 hp
        exact ⟨HJ5.out.below b6, hJc, hcm⟩
    have HB6 : Hid (Below w.heap.size w w6) := HB5.out.trans (b6.mono HB5.out.size)
    have HR6 : Hid (Rd w6 A (bvals key)) := HR5.out.below b6
    have HT6 : Hid (Rd w6 A5 (bvals (tagOf key J))) := HT5.out.below b6
    have HJ6 : Hid (Rd w6 A4 (bvals J)) := HJ5.out.below b6
    clear hW b6 HB5 HR5 HT5 HJ5
    have hj1 : joined [⟨A4, J, c4⟩] = J := by simp [joined]
    refine (tag_any A (some ⟨w5.heap.size, 0, none⟩) c 1 key [⟨A4, J, c4⟩] w6 HR6.out hkl HPs.out (by simp) (by rw [hj1]; omega) (HK.out.below HB6.out)).mono ?_
    rintro e w7 ⟨v7, rfl, own7, b7⟩
    rw [hj1] at own7
    obtain ⟨A7, c7, rfl, _, _⟩ := own_slice own7
    have HB7 : Hid (Below w.heap.size w w7) := HB6.out.trans (b7.mono HB6.out.size)
    have HR7 : Hid (Rd w7 A (bvals key)) := HR6.out.below b7
    have HT7 : Hid (Rd w7 A5 (bvals (tagOf key J))) := HT6.out.below b7
    have HU7 : Hid (Rd w7 A7 (bvals (tagOf key J))) := Rd.of_own own7
    have HJ7 : Hid (Rd w7 A4 (bvals J)) := HJ6.out.below b7
    clear own7 b7 hj1 HB6 HR6 HT6 HJ6 HPs
    go_wp2_with fail
    have HSM := Lib.hid (same_any A5 A7 c5 c7 (tagOf key J) (tagOf key J) w7 HT7.out HU7.out (by rw [HL.out]; omega) (by rw [HL.out]; omega))
    rw [HL.out] at HSM
    refine HSM.out.mono ?_
    rintro e w8 ⟨rfl, q, rfl⟩
    rw [sameB_self]
    have HB8 : Hid (Below w.heap.size w (w7.drewN q)) := Below.drewN_ HB7.out q
    have HR8 : Hid (Rd (w7.drewN q) A (bvals key)) := HR7.out.drewN q
    have HT8 : Hid (Rd (w7.drewN q) A5 (bvals (tagOf key J))) := HT7.out.drewN q
    have HJ8 : Hid (Rd (w7.drewN q) A4 (bvals J)) := HJ7.out.drewN q
    generalize w7.drewN q = w8 at *
    clear HB7 HR7 HT7 HJ7 HU7 HSM
    have hs1 := slice_hi A4 J.length c4 a (by omega)
    have hs2 := slice_lo A4 J.length c4 a (by omega)
    have HX : Hid (Rd w8 (if c4 = a then A4 else A4.map (fun x => x.add a)) (bvals (J.drop a))) := HJ8.out.cut hJc
    have HY : Hid (Rd w8 A4 (bvals (J.take a))) := HJ8.out.takeB a
    have HYl : Hid ((J.take a).length = a) := by unfold Hid; rw [List.length_take]; omega
    have HXl : Hid ((J.drop a).length = J.length - a) := by unfold Hid; rw [List.length_drop]
    generalize (if c4 = a then A4 else A4.map (fun x => x.add a)) = A9 at *
    have hs3 : ∀ w, (Instr.sliceAt 22 (.slice A4 J.length c4) none (some (.int .i64 (a : Int))) none).run Tryd.prog w = .ok (.slice A4 a c4) w := fun w => (at22 _ _ _ w).trans (hs1 w)
    have hs4 : ∀ w, (Instr.sliceAt 22 (.slice A4 J.length c4) (some (.int .i64 (a : Int))) none none).run Tryd.prog w = .ok (.slice A9 (J.length - a) (c4 - a)) w := fun w => (at22 _ _ _ w).trans (hs2 w)
    go_wp2_with fail
    have b9 : Below w8.heap.size w8 (w8.alloc (.cells #[.slice A4 a c4, .slice none 0 0, .slice A9 (J.length - a) (c4 - a)] 22)).drew := ((Below.refl _ _).alloc (Nat.le_refl _) _).drew
    have hj3 : joined [⟨A4, J.take a, c4⟩, ⟨none, [], 0⟩, ⟨A9, J.drop a, c4 - a⟩] = J := by simp [joined]
    have HB9 : Hid (Below w.heap.size w (w8.alloc (.cells #[.slice A4 a c4, .slice none 0 0, .slice A9 (J.length - a) (c4 - a)] 22)).drew) := HB8.out.trans (b9.mono HB8.out.size)
    have H23 := Lib.hid (tag_any A (some ⟨w8.heap.size, 0, none⟩) c 3 key [⟨A4, J.take a, c4⟩, ⟨none, [], 0⟩, ⟨A9, J.drop a, c4 - a⟩] _ (HR8.out.below b9) hkl (parts3 HY.out HX.out HYl.out HXl.out (by omega) hcm (by omega) (by omega)) (by simp) (by rw [hj3]; omega) (HK.out.below HB9.out))
    rw [hj3] at H23
    have HT9 : Hid (Rd (w8.alloc (.cells #[.slice A4 a c4, .slice none 0 0, .slice A9 (J.length - a) (c4 - a)] 22)).drew A5 (bvals (tagOf key J))) := HT8.out.below b9
    generalize tagOf key J = T at *
    clear b9 hj3
    go_region_with (first
      | (go_at_call 23; refine H23.out.mono ?_; rintro e w10 ⟨v10, rfl, own10, b10⟩; obtain ⟨A10, c10, rfl, _, _⟩ := own_slice own10; have HB10 : Hid (Below w.heap.size w w10) := HB9.out.trans (b10.mono HB9.out.size); have H15 := same_any A5 A10 c5 c10 T T w10 (HT9.out.below b10) (Rd.of_own own10) (by rw [HL.out]; omega) (by rw [HL.out]; omega); rw [HL.out, sameB_self] at H15; have HS15 := Lib.hid H15; clear H15 own10 b10)
      | (go_at_call 15; refine HS15.out.mono ?_; rintro e w11 ⟨rfl, q, rfl⟩; have HB11 := Lib.hid (Below.drewN_ HB10.out q)))
    go_wp2_with fail
    refine (lives2_any _ (HK.out.below HB11.out)).mono ?_
    rintro e w12 ⟨rfl, b12⟩
    have HB12 : Hid (Below w.heap.size w w12) := HB11.out.trans (b12.mono HB11.out.size)
    go_wp2_with fail
    go_ret
    exact ⟨rfl, HB12.out⟩
end Go.Proofs.YtleeacgimikdbaaDoor
