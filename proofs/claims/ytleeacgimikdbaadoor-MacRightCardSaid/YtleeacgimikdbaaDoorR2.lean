/- Whether bytes are the same; bytes in base 16, by the reference. -/
import Derived.Test.YtleeacgimikdbaaDoorR1
namespace Go.Proofs.YtleeacgimikdbaaDoor
open Go.RowKit
attribute [local go_sem ↓] Go.wp_at_zero Go.wp_at_succ
def sameB (a b : List UInt8) : Bool := decide (a = b)
theorem sameB_take (a b : List UInt8) (h : a.length = b.length) (k : Nat) (heq : ∀ j, j < k → a.getD j 0 = b.getD j 0) (he : k = a.length) : sameB a b = true := by
  unfold sameB
  rw [decide_eq_true_eq]
  apply List.ext_getElem h
  intro j h1 h2
  have := heq j (by omega)
  rw [List.getD_eq_getElem?_getD, List.getD_eq_getElem?_getD, List.getElem?_eq_getElem h1, List.getElem?_eq_getElem h2] at this
  exact this
theorem sameB_ne (a b : List UInt8) (k : Nat) (h : a.getD k 0 ≠ b.getD k 0) : sameB a b = false := by
  unfold sameB
  rw [decide_eq_false_iff_not]
  rintro rfl
  exact h rfl
theorem sameB_len (a b : List UInt8) (h : a.length ≠ b.length) : sameB a b = false := by
  unfold sameB
  rw [decide_eq_false_iff_not]
  rintro rfl
  exact h rfl
set_option maxRecDepth 100000 in
set_option maxHeartbeats 1000000 in
theorem same_any (A B : Option Addr) (c d : Nat) (xs ys : List UInt8) (w : World) (ha : Rd w A (bvals xs)) (hb : Rd w B (bvals ys)) (hn : xs.length ≤ 1000000) (_hm : ys.length ≤ 1000000) :
    Calls Tryd.prog 15 #[.slice A xs.length c, .slice B ys.length d] w fun e w' => e = .returned (.bool (sameB xs ys)) ∧ ∃ k, w' = w.drewN k := by
  by_cases hlen : xs.length = ys.length
  · have HL := Lib.hid hlen
    rw [← hlen]
    have hneq : ((xs.length : Int) != (xs.length : Int)) = false := by simp
    generalize hN : xs.length = n at *
    have HN := Lib.hid hN
    clear hN hlen _hm
    go_enter Tryd.func15, Tryd.ntmps15
    go_wp2_with fail
    clear hneq
    go_loopw [5] (fun i wr => ∃ k q : Nat, k ≤ n ∧ i = .int .i64 (k : Int) ∧ (∀ j, j < k → xs.getD j 0 = ys.getD j 0) ∧ wr = w.drewN q) (fun i _ => n - (intOf i).toNat)
    case atStart => exact ⟨0, 0, by omega, rfl, fun j hj => by omega, rfl⟩
    case round =>
      obtain ⟨k, q, hk8, rfl, heq, rfl⟩ := hrel
      have HE := Lib.hid heq
      clear heq
      by_cases hk : k < n
      · obtain ⟨b1, o1, hA, hc1⟩ := ha.byte (j := k) (by rw [HN.out]; exact hk)
        obtain ⟨b2, o2, hB, hc2⟩ := hb.byte (j := k) (by have := HL.out; omega)
        subst hA hB
        have e4 : (k : Int) < (n : Int) := by omega
        by_cases hx : xs.getD k 0 = ys.getD k 0
        · have HX := Lib.hid hx
          rw [← hx] at hc2
          clear hx
          generalize xs.getD k 0 = x at hc1 hc2
          have hne : ((x.toNat : Int) != (x.toNat : Int)) = false := by simp
          go_wp2_with fail
          refine still_lit (by kernel_rfl) (by kernel_rfl) ?_
          repeat still_step
          refine wpStill_nil ?_
          go_wp2
          go_roundw
          case rel =>
            refine ⟨k + 1, q + 1, by omega, by go_num, fun j hj => ?_, rfl⟩
            rcases Nat.lt_or_ge j k with h | h
            · exact HE.out j h
            · obtain rfl : j = k := by omega
              exact HX.out
          case measure => simp [intOf]; omega
        · have hS := Lib.hid (sameB_ne xs ys k hx)
          have hne : (((xs.getD k 0).toNat : Int) != ((ys.getD k 0).toNat : Int)) = true := by
            rw [bne_iff_ne]
            exact fun h => hx (bval_inj h)
          clear hx
          generalize xs.getD k 0 = x at hc1 hne
          generalize ys.getD k 0 = y at hc2 hne
          go_wp2_with fail
          refine still_lit (by kernel_rfl) (by kernel_rfl) ?_
          repeat still_step
          refine wpStill_nil ?_
          go_wp2
          go_ret
          exact ⟨by rw [hS.out]; rfl, q + 1, rfl⟩
      · obtain rfl : k = n := by omega
        have hS := Lib.hid (sameB_take xs ys (by rw [HN.out]; exact HL.out) k HE.out HN.out.symm)
        go_wp2
        go_ret
        exact ⟨by rw [hS.out]; rfl, q, rfl⟩
  · have hS := Lib.hid (sameB_len xs ys hlen)
    have hne : ((xs.length : Int) != (ys.length : Int)) = true := by
      rw [bne_iff_ne]
      omega
    clear hlen ha hb
    go_enter Tryd.func15, Tryd.ntmps15
    go_wp2
    go_ret
    exact ⟨by rw [hS.out]; rfl, 0, rfl⟩
set_option maxRecDepth 100000 in
set_option maxHeartbeats 1000000 in
theorem rhex_any (A : Option Addr) (c : Nat) (bs : List UInt8) (w : World) (hr : Rd w A (bvals bs)) (hn : bs.length ≤ 1000000) :
    Calls Tryd.prog 20 #[.slice A bs.length c] w fun e w' => e = .returned (strOf (hexOf bs)) ∧ Below w.heap.size w w' := by
  have hl : Hid (bs.length = bs.length) := rfl
  generalize hm : bs.length = n at hl hn ⊢
  have HM := Lib.hid hm
  clear hm hl
  go_enter Tryd.func20, Tryd.ntmps20
  go_wp2_with fail
  go_loopw [3, 4] (fun v i wr => ∃ k : Nat, k ≤ n ∧ i = .int .i64 (k : Int) ∧ wr.ownsRow w.heap.size 5 1 v (2 * k) (bvals (hexOf (bs.take k))) ∧ Below w.heap.size w wr) (fun _ i _ => n - (intOf i).toNat)
  case atStart => exact ⟨0, by omega, rfl, World.ownsRow_nil _ _ _ _, Below.refl _ _⟩
  case round =>
    obtain ⟨k, hk8, rfl, hown, hb⟩ := hrel
    have hrr := hr.below hb
    by_cases hk : k < n
    · obtain ⟨bl, off, hA, hbl, hcw⟩ := hr.at (j := k) (by rw [bvals_length, HM.out]; exact hk)
      have hcell : wr.cell? ⟨bl, off + k, none⟩ = some (.int .u8 ((bs.getD k 0).toNat : Int)) := (hb.cell (p := ⟨bl, off + k, none⟩) hbl).trans (hcw k _ (bvals_at bs k (by rw [HM.out]; exact hk)))
      have hne : Hid (some bl ≠ u3.ownBlock) := fun h => by
        have := (hown.lt bl h.symm).1
        omega
      have HC := Lib.hid hcell
      clear hcw
      subst hA
      have hx := Lib.hid (hexOf_take bs k (by rw [HM.out]; exact hk))
      have HO := Lib.hid hown
      have HV := Lib.hid hb
      clear hown hb hrr
      generalize bs.getD k 0 = x at *
      have hx8 := u8_lt x
      have e4 : (k : Int) < (n : Int) := by omega
      go_wp2_with fail
      have e1 : ((x.toNat : Int) / 16).toNat = x.toNat / 16 := by omega
      have e2 : ((x.toNat : Int) % 16).toNat = x.toNat % 16 := by omega
      have f1 : (0 : Int) ≤ (x.toNat : Int) / 16 ∧ (x.toNat : Int) / 16 < 16 := by omega
      have f2 : (0 : Int) ≤ (x.toNat : Int) % 16 ∧ (x.toNat : Int) % 16 < 16 := by omega
      have F1 := Lib.hid f1
      have F2 := Lib.hid f2
      have w1 : IntKind.i64.wrap (x.toNat : Int) = (x.toNat : Int) := IntWalk.i64_in _ (by omega)
      have w2 : (x.toNat : Int).tdiv 16 = (x.toNat : Int) / 16 := Int.tdiv_eq_ediv_of_nonneg (by omega)
      have w3 : IntKind.i64.wrap ((x.toNat : Int) / 16) = (x.toNat : Int) / 16 := IntWalk.i64_in _ (by omega)
      have w4 : (x.toNat : Int).tmod 16 = (x.toNat : Int) % 16 := Int.tmod_eq_emod_of_nonneg (by omega)
      clear f1 f2
      go_region_held3 (fun w' => w'.cell? ⟨bl, off + k, none⟩ = some (.int .u8 (x.toNat : Int))) (first | go_keep | exact grow5.cell (a := ⟨bl, off + k, none⟩) (by simpa using World.cell?_alloc_lt wr _ ⟨bl, off + k, none⟩ (by have := HV.out.size; simp; omega) |>.trans HC.out) hne.out) (first | ((go_at_call 34; refine (digit_int _ _ (by first | with_reducible exact F1.out.1 | with_reducible exact F2.out.1) (by first | with_reducible exact F1.out.2 | with_reducible exact F2.out.2)).mono ?_; rintro e w' ⟨rfl, rfl⟩)) | ((obtain ⟨v5, w5, hrun5, own5, grow5, at5⟩ := app_own (w := (wr.alloc (.cells #[.int .u8 ((dig (x.toNat / 16)).toNat : Int), .int .u8 ((dig (x.toNat % 16)).toNat : Int)] 5)).drew) byteE 22 (HO.out.alloc _) (A := some ⟨wr.heap.size, 0, none⟩) (news := bvals [hexHi x, hexLo x]) 2 2 ((Rd.of_blk (cs := bvals [hexHi x, hexLo x]) (Blk.new wr 5 _) 0).drew) rfl (bvals_one _) (by omega) (by unfold maxLen; omega) (by simp; exact Nat.le_succ_of_le HV.out.size); refine step_append (by rfl) (.tmp 11) (.tmp 26) 22 22 (by rfl) _ _ (by rfl) (by rfl) hrun5 ?_)))
      all_goals
        go_wp2
        go_roundw
        case rel =>
          refine ⟨k + 1, by omega, by go_num, ?_, ?_⟩
          · rw [hx.out, bvals_append]; exact own5
          · exact ((HV.out.alloc HV.out.size _).drew).grown grow5 (by simp; exact Nat.le_succ_of_le HV.out.size) (fun q hq => (HO.out.lt q hq).1)
        case measure => simp [intOf]; omega
    · obtain rfl : k = n := by omega
      rw [List.take_of_length_le (by rw [HM.out]; exact Nat.le_refl _)] at hown
      have HO := Lib.hid hown
      have HV := Lib.hid hb
      have hlen : Hid ((hexOf bs).length = 2 * k) := by
        have h1 := hown.1
        rw [bvals_length, Nat.mul_one] at h1
        exact h1
      have hform : Hid (∃ A cap, u3 = .slice A (2 * k) cap) := by
        rcases hown.2 with ⟨h1, h2⟩ | ⟨g, cap, _, h1, _⟩
        · exact ⟨none, 0, by rw [h1, h2]⟩
        · exact ⟨_, cap, h1⟩
      clear hown hb hrr hr
      obtain ⟨A3, cap3, h3⟩ := hform.out
      clear hform
      subst h3
      have hs := str_of (P := Tryd.prog) (w := wr) (dst := 9) Tryd.underlying22 Tryd.underlying5 Tryd.underlying9 cap3 (Rd.of_own HO.out) hlen.out
      go_wp2
      go_ret
      exact ⟨rfl, HV.out⟩
end Go.Proofs.YtleeacgimikdbaaDoor
