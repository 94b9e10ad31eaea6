/- like: both tapes have the same. -/
import Derived.Test.YtpcmfbdlfjlobaaV1
namespace Go.Proofs.Ytpcmfbdlfjlobaa
open Go.RowKit
set_option linter.unusedVariables false
attribute [local go_sem ↓] Go.wp_at_zero Go.wp_at_succ
set_option maxRecDepth 100000 in
set_option maxHeartbeats 4000000 in
theorem like_any {B : Nat} {w : World} {p q : Nat} {s : TSt} {F G : Nat → Prop} (h : Two B w p q s s F G) (hg : s.good) (hl : s.us.length ≤ 1000000) :
    Calls Try.prog 12 #[.pointer (some ⟨p, 0, none⟩), .pointer (some ⟨q, 0, none⟩)] w fun e w' => e = .returned (.bool true) ∧ Below w.heap.size w w' := by
  have HT := Lib.hid h
  have HG := Lib.hid hg
  have HUL : Hid (s.us.length ≤ 1000000) := hl
  clear h hg hl
  go_enter Try.func12, Try.ntmps12
  go_wp2_with fail
  go_loopw [5, 6, 7, 8, 9, 10] (fun i _ _ _ _ _ wr => ∃ k : Nat, k ≤ 4 ∧ i = .int .i64 ((k : Int) - 1) ∧ Below w.heap.size w wr) (fun i _ _ _ _ _ _ => 4 - (intOf i + 1).toNat)
  case atStart => exact ⟨0, by omega, by go_num, Below.refl _ _⟩
  case round =>
    obtain ⟨k, hk, rfl, hb⟩ := hrel
    have HB := Lib.hid hb
    have HTr := Lib.hid (HT.out.below hb)
    clear hb
    obtain ⟨j, hj⟩ : ∃ j : Int, (k : Int) - 1 = j := ⟨_, rfl⟩
    by_cases hlt : k < 4
    · have hle : j ≤ 2 := by omega
      have hj1 : -1 ≤ j := by omega
      have hwj : IntKind.i64.wrap (j + 1) = j + 1 := IntWalk.i64_in _ (by omega)
      have HJ := Lib.hid hj
      rw [hj]
      clear hj
      have HR := Lib.hid (read_all j HTr.out.rp HG.out)
      have hne : (rdyN s j != rdyN s j) = false := by simp
      go_wp2_with fail
      refine HR.out.mono ?_
      rintro e w2 ⟨A2, c2, rfl, own2, hg2, hb2⟩
      have HRR := Lib.hid (rread_all j (HTr.out.below hb2).rq HG.out HUL.out)
      have HO2 := Lib.hid own2
      have HB2 := Lib.hid hb2
      clear own2 hg2 hb2 HR
      go_wp2_with fail
      refine HRR.out.mono ?_
      rintro e w3 ⟨A3, c3, rfl, own3, hg3, hb3⟩
      have hs := same_any A2 A3 c2 c3 (rdBs s j) (rdBs s j) w3 (HO2.out.rd.below hb3) own3.rd (by have := rdBs_len HG.out j; omega) (by have := rdBs_len HG.out j; omega)
      rw [sameB_self] at hs
      have HS := Lib.hid hs
      have HB3 : Hid (Below w.heap.size w w3) := HB.out.trans ((HB2.out.trans (hb3.mono HB2.out.size)).mono HB.out.size)
      clear own3 hg3 hb3 hs HRR HO2 HB2
      generalize rdyN s j = r at *
      generalize (rdBs s j).length = n at *
      go_wp2_with fail
      refine HS.out.mono ?_
      rintro e w4 ⟨rfl, nd, rfl⟩
      have HB4 : Hid (Below w.heap.size w (w3.drewN nd)) := Below.drewN_ HB3.out nd
      clear HS
      generalize w3.drewN nd = w4 at *
      go_wp2_with fail
      go_roundw
      case rel => exact ⟨k + 1, by omega, by have := HJ.out; congr 1; omega, HB4.out⟩
      case measure => have := HJ.out; simp [intOf]; omega
    · have hgt : ¬ ((k : Int) - 1 ≤ 2) := by omega
      have hj3 : j = 3 := by omega
      rw [hj]
      subst hj3
      have HU := Lib.hid (units_any (HTr.out.drewN 1).rp)
      obtain ⟨g, r0, r1, uv, L, h6, _⟩ := HTr.out.rq
      obtain ⟨AU, cU, hu, _, _⟩ := h6.us.slice
      subst hu
      have x1 : wr.cell? ⟨q, 1, none⟩ = some (.slice AU s.us.length cU) := h6.ptr.cell 1
      have HB5 : Hid (Below w.heap.size w wr.drew) := Below.drewN_ HB.out 1
      clear h6 hj
      have hee : ((s.us.length : Int) == (s.us.length : Int)) = true := by simp
      go_wp2_with fail
      refine still_lit (by kernel_rfl) (by kernel_rfl) ?_
      repeat (first | still_step | still_call (HU.out.mono fun e w' ⟨h1, h2⟩ => ⟨h1, h2.symm⟩))
      refine wpStill_nil ?_
      go_wp2_with fail
      go_ret
      exact ⟨rfl, HB5.out⟩
end Go.Proofs.Ytpcmfbdlfjlobaa
