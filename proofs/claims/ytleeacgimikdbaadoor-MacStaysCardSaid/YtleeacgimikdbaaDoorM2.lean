/- Contracts of cut, Joined, Equal. -/
import Derived.Test.YtleeacgimikdbaaDoorM1
namespace Go.Proofs.YtleeacgimikdbaaDoor
open Go.RowKit
attribute [local go_sem ↓] Go.wp_at_zero Go.wp_at_succ
theorem partE : Elem Tryd.prog 29 22 (.slice none 0 0) 1 24 := Elem.mk_ Tryd.underlying29 (by kernel_rfl) rfl (by decide)
theorem own_slice {w : World} {base : Nat} {e : TypeId} {size : Nat} {v : Value} {n : Nat} {xs : List Value} (h : w.ownsRow base e size v n xs) : ∃ A cap, v = .slice A n cap ∧ n ≤ cap ∧ cap ≤ maxLen := by
  rcases h.2 with ⟨h1, h2⟩ | ⟨g, cap, cur, h1, _, _, h3, h4, _⟩
  · exact ⟨none, 0, by rw [h1, h2], by omega, by simp⟩
  · exact ⟨_, cap, h1, h3, h4⟩
theorem pvals_append (a b : List Pt) : pvals (a ++ b) = pvals a ++ pvals b := by simp [pvals]
theorem cut_take (ps : List Pt) (k : Nat) (h : k < ps.length) : ((ps.take (k + 1)).map fun p => p.few 60) = ((ps.take k).map fun p => p.few 60) ++ [(ps[k]).few 60] := by
  rw [List.take_succ_eq_append_getElem h, List.map_append]
  rfl
set_option maxRecDepth 100000 in
set_option maxHeartbeats 1000000 in
theorem cut_any (P : Option Addr) (c : Nat) (ps : List Pt) (w : World) (hr : Rps w P ps) (hn : ps.length ≤ maxLen) :
    Calls Tryd.prog 22 #[.slice P ps.length c] w fun e w' => ∃ v, e = .returned v ∧ w'.ownsRow w.heap.size 22 1 v (cutAll ps).length (pvals (cutAll ps)) ∧ Below w.heap.size w w' := by
  unfold maxLen at hn
  have hl : Hid (ps.length = ps.length) := rfl
  generalize hm : ps.length = n at hl hn ⊢
  have HM := Lib.hid hm
  clear hm hl
  go_enter Tryd.func22, Tryd.ntmps22
  go_wp2_with fail
  go_loopw [3, 4] (fun v i wr => ∃ k : Nat, k ≤ n ∧ k ≤ 6 ∧ i = .int .i64 (k : Int) ∧ wr.ownsRow w.heap.size 22 1 v k (pvals ((ps.take k).map fun p => p.few 60)) ∧ Below w.heap.size w wr) (fun _ i _ => 6 - (intOf i).toNat)
  case atStart => exact ⟨0, by omega, by omega, rfl, World.ownsRow_nil _ _ _ _, Below.refl _ _⟩
  case round =>
    obtain ⟨k, hk, hk6, rfl, hown, hb⟩ := hrel
    by_cases hlt : k < n ∧ k < 6
    · obtain ⟨hkn, hk66⟩ := hlt
      have hrr := hr.below hb
      obtain ⟨b, off, rfl, _, hcell⟩ := hrr.at_ (j := k) (by rw [HM.out]; exact hkn)
      have hok := hrr.each _ (List.getElem_mem (h := by rw [HM.out]; exact hkn))
      have hx := Lib.hid (cut_take ps k (by rw [HM.out]; exact hkn))
      generalize ps[k]'(by rw [HM.out]; exact hkn) = p at hcell hok hx
      obtain ⟨A, bs, cp⟩ := p
      unfold Pt.val at hcell
      simp only at hcell
      have HO := Lib.hid hown
      have HV := Lib.hid hb
      have hk1 : (k : Int) < (n : Int) := by omega
      have hk2 : (k : Int) < 6 := by omega
      have l1 : bs.length ≤ cp := hok.len
      have l2 : cp ≤ maxLen := hok.cap
      clear hown hb hrr hok
      go_wp2_with fail
      refine (few2_bs A bs cp 60 wr l1 l2 (by decide) (by decide)).mono ?_
      rintro e w2 ⟨rfl, rfl⟩
      have h60 : Hid ((bs.take (60 : Int).toNat).length = (bs.take 60).length) := rfl
      rw [h60.out]
      generalize hbt : (bs.take 60).length = bl
      go_wp2_with (at_builtin; obtain ⟨v5, w5, hrun5, own5, grow5, at5⟩ := app_own partE 29 (HO.out.alloc (.cells #[.slice A bl cp] 22)) (A := some ⟨wr.heap.size, 0, none⟩) (news := [.slice A bl cp]) 1 1 (Rd.of_blk (cs := [.slice A bl cp]) (Blk.new wr 22 _) 0) rfl (by simp [Value.oneCell']) (by omega) (by unfold maxLen; omega) (by simp; exact Nat.le_succ_of_le HV.out.size); refine wpl_append rfl (.tmp 15) (.tmp 21) 29 29 rfl _ _ rfl rfl hrun5 ?_)
      go_roundw
      case rel =>
        refine ⟨k + 1, by omega, by omega, by go_num, ?_, (HV.out.alloc HV.out.size _).grown grow5 (by simp; exact Nat.le_succ_of_le HV.out.size) (fun q hq => (HO.out.lt q hq).1)⟩
        rw [hx.out, pvals_append]
        subst hbt
        exact own5
      case measure => simp [intOf]; omega
    · have hfin : Hid ((ps.take k).map (fun p => p.few 60) = cutAll ps) := by
        unfold Hid cutAll
        by_cases h6 : k = 6
        · rw [h6]
        · have hkn : k = n := by omega
          rw [List.take_of_length_le (by rw [HM.out]; omega), List.take_of_length_le (by rw [HM.out]; omega)]
      have hlen : Hid (k = (cutAll ps).length) := by
        have := hown.1
        rw [hfin.out, pvals_length, Nat.mul_one] at this
        exact this.symm
      rw [hfin.out] at hown
      have HO := Lib.hid hown
      have HV := Lib.hid hb
      clear hown hb hr
      by_cases hkn : k = n
      · obtain rfl := hkn
        clear hlt
        go_wp2
        go_ret
        exact ⟨_, rfl, by rw [← hlen.out]; exact HO.out, HV.out⟩
      · obtain rfl : k = 6 := by omega
        have hk1 : (6 : Int) < (n : Int) := by omega
        clear hlt
        go_wp2
        go_ret
        exact ⟨_, rfl, by rw [← hlen.out]; exact HO.out, HV.out⟩
set_option maxRecDepth 100000 in
set_option maxHeartbeats 1000000 in
theorem joined_any (P : Option Addr) (c : Nat) (ps : List Pt) (w : World) (hr : Rps w P ps) (hn : ps.length ≤ 1000) (hj : (joined ps).length ≤ 100000) :
    Calls Tryd.prog 25 #[.slice P ps.length c] w fun e w' => ∃ v, e = .returned v ∧ w'.ownsRow w.heap.size 5 1 v (joined ps).length (bvals (joined ps)) ∧ Below w.heap.size w w' := by
  have hl : Hid (ps.length = ps.length) := rfl
  generalize hm : ps.length = n at hl hn ⊢
  have HM := Lib.hid hm
  clear hm hl
  go_enter Tryd.func25, Tryd.ntmps25
  go_wp2_with fail
  go_loopw [3, 4] (fun v i wr => ∃ k : Nat, k ≤ n ∧ i = .int .i64 (k : Int) ∧ wr.ownsRow w.heap.size 5 1 v (joined (ps.take k)).length (bvals (joined (ps.take k))) ∧ Below w.heap.size w wr) (fun _ i _ => n - (intOf i).toNat)
  case atStart => exact ⟨0, by omega, rfl, World.ownsRow_nil _ _ _ _, Below.refl _ _⟩
  case round =>
    obtain ⟨k, hk, rfl, hown, hb⟩ := hrel
    by_cases hlt : k < n
    · have hrr := hr.below hb
      obtain ⟨b, off, rfl, _, hcell⟩ := hrr.at_ (j := k) (by rw [HM.out]; exact hlt)
      have hok := hrr.each _ (List.getElem_mem (h := by rw [HM.out]; exact hlt))
      have hx := Lib.hid (joined_take ps k (by rw [HM.out]; exact hlt))
      have hle := joined_take_le ps (k + 1)
      rw [hx.out, List.length_append] at hle
      generalize ps[k]'(by rw [HM.out]; exact hlt) = p at hcell hok hx hle
      obtain ⟨A, bs, cp⟩ := p
      unfold Pt.val at hcell
      simp only at hcell hle
      generalize hJ : (joined (ps.take k)) = J at hown hx hle
      have HO := Lib.hid hown
      have HV := Lib.hid hb
      have HR : Hid (Rd wr A (bvals bs)) := hok.rd
      have hk1 : (k : Int) < (n : Int) := by omega
      clear hown hb hrr hok hJ
      go_wp2_with (at_builtin; obtain ⟨v5, w5, hrun5, own5, grow5, at5⟩ := app_own byteE 22 HO.out bs.length cp HR.out (by rw [bvals_length, Nat.mul_one]) (bvals_one bs) (by omega) (by unfold maxLen; omega) HV.out.size; refine wpl_append rfl (.tmp 11) (.tmp 15) 22 22 rfl _ _ rfl rfl hrun5 ?_)
      go_roundw
      case rel =>
        refine ⟨k + 1, by omega, by go_num, ?_, HV.out.grown grow5 HV.out.size (fun q hq => (HO.out.lt q hq).1)⟩
        rw [hx.out, bvals_append, List.length_append]
        exact own5
      case measure => simp [intOf]; omega
    · obtain rfl : k = n := by omega
      rw [List.take_of_length_le (by rw [HM.out]; exact Nat.le_refl _)] at hown
      have HO := Lib.hid hown
      have HV := Lib.hid hb
      clear hown hb hr
      go_wp2
      go_ret
      exact ⟨_, rfl, HO.out, HV.out⟩
attribute [local go_sem] strOf_eq strOf_guard
set_option maxRecDepth 100000 in
set_option maxHeartbeats 1000000 in
theorem equal_any (A B : Option Addr) (c d : Nat) (xs ys : List UInt8) (w : World) (ha : Rd w A (bvals xs)) (hb : Rd w B (bvals ys)) :
    Calls Tryd.prog 36 #[.slice A xs.length c, .slice B ys.length d] w fun e w' => e = .returned (.bool (sameB xs ys)) ∧ w' = w := by
  have h1 := str_of (P := Tryd.prog) (w := w) (dst := 9) Tryd.underlying22 Tryd.underlying5 Tryd.underlying9 c ha rfl
  have h2 := str_of (P := Tryd.prog) (w := w) (dst := 9) Tryd.underlying22 Tryd.underlying5 Tryd.underlying9 d hb rfl
  rw [← strOf] at h1 h2
  have hs : Hid (sameB xs ys = decide (xs = ys)) := rfl
  clear ha hb
  go_enter Tryd.func36, Tryd.ntmps36
  go_wp2
  go_ret
  exact ⟨by rw [hs.out]; rfl, rfl⟩
end Go.Proofs.YtleeacgimikdbaaDoor
