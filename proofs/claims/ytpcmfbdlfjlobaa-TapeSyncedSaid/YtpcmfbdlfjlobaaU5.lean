/- Write of the reference. -/
import Derived.Test.YtpcmfbdlfjlobaaU3
namespace Go.Proofs.Ytpcmfbdlfjlobaa
open Go.RowKit
set_option linter.unusedVariables false
attribute [local go_sem ↓] Go.wp_at_zero Go.wp_at_succ
theorem rwrite_rdy {w : World} {p : Nat} {s : TSt} {F : Nat → Prop} (side : Int) (v : Value) (h : Rt w p s F) (hr : rdyN s side ≠ 0) :
    Calls Try.prog 26 #[.pointer (some ⟨p, 0, none⟩), .int .i64 side, v] w fun e w' => e = .returned (.int .i64 (rdyN s side)) ∧ w = w' := by
  have HR := Lib.hid (rready_any side h)
  clear h
  have hne : (rdyN s side != 0) = true := by simpa using hr
  generalize rdyN s side = r at *
  go_enter Try.func26, Try.ntmps26
  go_wp2_with fail
  refine HR.out.mono ?_
  rintro e w' ⟨rfl, rfl⟩
  go_wp2
  go_ret
  exact ⟨rfl, rfl⟩
theorem rwrite_room {w : World} {p : Nat} {s : TSt} {F : Nat → Prop} (o : Bool) (A : Option Addr) (n c : Nat) (h : Rt w p s F) (hg : s.good) (hr : rdyN s (sdI o) = 0) (hm : 65536 < (s.now.get o).length + n) (hn : n ≤ 1000000) (hl : s.us.length ≤ 1000000) :
    Calls Try.prog 26 #[.pointer (some ⟨p, 0, none⟩), .int .i64 (sdI o), .slice A n c] w fun e w' => e = .returned (.int .i64 42) ∧ Below w.heap.size w w' := by
  have HR := rready_any (sdI o) h
  rw [hr] at HR
  have HC := Lib.hid (rnow_any o h hg hl)
  have hz := hg.now o
  have HRR := Lib.hid HR
  clear HR h hr hg
  generalize s.now.get o = bs at *
  generalize sdI o = side at *
  have hw : IntKind.i64.wrap ((bs.length : Int) + (n : Int)) = (bs.length : Int) + (n : Int) := IntWalk.i64_in _ (by omega)
  have hlt : (65536 : Int) < (bs.length : Int) + (n : Int) := by omega
  go_enter Try.func26, Try.ntmps26
  go_wp2_with fail
  refine HRR.out.mono ?_
  rintro e w' ⟨rfl, rfl⟩
  go_wp2_with fail
  refine HC.out.mono ?_
  rintro e w5 ⟨A5, c5, rfl, own5, hg5, hb5⟩
  have HB := Lib.hid hb5
  clear own5 hg5 hb5
  go_wp2_with fail
  go_ret
  exact ⟨rfl, HB.out⟩
def InvRW (w : World) (q : Nat) (s : TSt) (o : Bool) (bs : List UInt8) (L : Int) (F : Nat → Prop) (i : Value) (wr : World) : Prop := ∃ (k g : Nat) (r0 r1 : Value) (AU : Option Addr) (nU cU : Nat) (F' : Nat → Prop), k ≤ bs.length ∧ i = .int .i64 (k : Int) ∧ RtW wr q s.safe (s.us ++ wUs o (bs.take k)) s.burns L F' g r0 r1 (.slice AU nU cU) ∧ Kept F w wr ∧ Grew F F' w
set_option maxRecDepth 100000 in
set_option maxHeartbeats 8000000 in
theorem rwrite_any {w : World} {q : Nat} {s : TSt} {F : Nat → Prop} (o : Bool) (A : Option Addr) (c : Nat) (bs : List UInt8) (h : Rt w q s F) (hg : s.good) (hr : rdyN s (sdI o) = 0) (hrd : Rd w A (bvals bs)) (hA : ∀ a, A = some a → bs ≠ [] → ¬ F a.block) (hm : (s.now.get o).length + bs.length ≤ 65536) (hl2 : s.us.length ≤ 1000000) :
    Calls Try.prog 26 #[.pointer (some ⟨q, 0, none⟩), .int .i64 (sdI o), .slice A bs.length c] w (Did (fun w' => Rt w' q (s.did (wUs o bs))) F (.returned (.int .i64 0)) w) := by
  have HR := rready_any (sdI o) h
  rw [hr] at HR
  have HC := Lib.hid (rnow_any o h hg hl2)
  have hz := hg.now o
  have HT := Lib.hid h
  have HRD := Lib.hid hrd
  have HG := Lib.hid hg
  have HA := Lib.hid hA
  have HUL : Hid (s.us.length ≤ 1000000) := hl2
  have HRR := Lib.hid HR
  have hn6 : bs.length ≤ 65536 := by omega
  clear HR h hr hg hrd hl2 hA
  generalize s.now.get o = cur at *
  have hw : IntKind.i64.wrap ((cur.length : Int) + (bs.length : Int)) = (cur.length : Int) + (bs.length : Int) := IntWalk.i64_in _ (by omega)
  have hlt : ¬ (65536 : Int) < (cur.length : Int) + (bs.length : Int) := by omega
  clear hm
  generalize hn : bs.length = n at *
  have HN := Lib.hid hn
  clear hn
  cases o
  · simp only [sdI] at *
    go_enter Try.func26, Try.ntmps26
    go_wp2_with fail
    refine HRR.out.mono ?_
    rintro e w' ⟨rfl, rfl⟩
    go_wp2_with fail
    refine HC.out.mono ?_
    rintro e w2 ⟨A2, c2, rfl, _, _, hb2⟩
    have HT2 := Lib.hid (HT.out.below hb2)
    have HB2 := Lib.hid hb2
    clear hb2 HC HRR
    go_wp2_with fail
    refine (rburn_any HT2.out HG.out).mono ?_
    rintro e w3 ⟨rfl, hk3, g, r0, r1, uv, L, h3, hL⟩
    obtain ⟨AU, cU, hu, _, _⟩ := h3.us.slice
    subst hu
    have HK3 : Hid (Kept F w w3) := (Kept.of_below F HB2.out).trans (Grew.refl _ _) (hk3.mono fun b e => e ▸ h3.fpq)
    have HL := Lib.hid hL
    have HI : Hid (InvRW w q s false bs L F (.int .i64 0) w3) := ⟨0, g, r0, r1, AU, _, cU, F, by omega, rfl, by simpa [wUs] using h3, HK3.out, Grew.refl _ _⟩
    clear h3 hk3 hL HT2 HG HK3 hw hlt
    go_wp2_with fail
    go_loopw [8] (fun i wr => InvRW w q s false bs L F i wr) (fun i _ => n - (intOf i).toNat)
    case atStart => exact HI.out
    case round =>
      clear HI
      obtain ⟨k, g, r0, r1, AU, nU, cU, F', hk, rfl, ht, hkp, hgr⟩ := hrel
      rw [HN.out] at hk
      have HTW := Lib.hid ht
      have HK := Lib.hid hkp
      have HGR := Lib.hid hgr
      clear ht hkp hgr
      by_cases hlt : k < n
      · have hlt' : (k : Int) < (n : Int) := by omega
        have hkl : k < bs.length := by rw [HN.out]; exact hlt
        have hrd : Rd wr A (bvals bs) := HRD.out.kept HK.out fun a ha => HA.out a ha (fun e => by rw [e] at hkl; simp at hkl)
        obtain ⟨b, off, hAe, hbl, hc⟩ := hrd.at (j := k) (by rw [bvals_length]; omega)
        subst hAe
        have e0 := hc _ _ (bvals_at bs k hkl)
        obtain ⟨x, hx⟩ : ∃ x, bs.getD k 0 = x := ⟨_, rfl⟩
        rw [hx] at e0
        unfold bval at e0
        have ae0 : ∀ o', (wr.alloc o').cell? ⟨b, off + k, none⟩ = some (.int .u8 (x.toNat : Int)) := fun o' => (World.cell?_alloc_lt wr o' _ hbl).trans e0
        have HX : Hid (s.us ++ wUs false (bs.take (k + 1)) = (s.us ++ wUs false (bs.take k)) ++ [⟨false, none, x⟩]) := by
          unfold Hid
          rw [← List.take_append_getElem hkl]
          rw [List.getD_eq_getElem?_getD, List.getElem?_eq_getElem hkl] at hx
          simp at hx
          simp [wUs, hx]
        obtain ⟨M, hM⟩ : ∃ M, (s.us ++ wUs false (bs.take k)).length = M := ⟨_, rfl⟩
        have HML := Lib.hid hM
        have HLEN : Hid (M ≤ 1100000) := by
          unfold Hid
          rw [← hM]
          rw [List.length_append, wUs_length, List.length_take]
          have := HUL.out
          omega
        have x1 : wr.cell? ⟨q, 1, none⟩ = some (.slice AU nU cU) := HTW.out.ptr.cell 1
        have ax1 : ∀ o', (wr.alloc o').cell? ⟨q, 1, none⟩ = some (.slice AU nU cU) := fun o' => (HTW.out.ptr.alloc o').cell 1
        have HRN : Hid (Rd (wr.alloc (.cells #[.int .i64 0, .int .i64 (-1), .int .u8 (x.toNat : Int)] 67)).drew (some ⟨wr.heap.size, 0, none⟩) (ucells [⟨false, none, x⟩])) := (Rd.of_blk (cs := ucells [⟨false, none, x⟩]) (Blk.new wr 67 _) 0).drew
        have HUS : Hid (GOwn (wr.alloc (.cells #[.int .i64 0, .int .i64 (-1), .int .u8 (x.toNat : Int)] 67)).drew 67 3 (.slice AU nU cU) M (ucells (s.us ++ wUs false (bs.take k)))) := hM ▸ HTW.out.us.keep fun b' hb' => Below.heap_alloc wr _ b' (HTW.out.us.lt hb')
        clear hc hrd hx hM
        go_wp2_with fail
        go_region_law ((obtain ⟨v5, w5, hrun5, own5, grow5, at5⟩ := g_app (w := (wr.alloc (.cells #[.int .i64 0, .int .i64 (-1), .int .u8 (x.toNat : Int)] 67)).drew) runE 57 HUS.out (A := some ⟨wr.heap.size, 0, none⟩) (news := ucells [⟨false, none, x⟩]) 1 1 HRN.out rfl (ucells_one _) (by have := HLEN.out; omega) (by have := HLEN.out; unfold maxLen; omega); obtain ⟨A5, c5, rfl, _, _⟩ := own5.slice; have hp5 : Blk w5 q 59 _ := ((HTW.out.ptr.alloc _).drew).grown grow5 (fun e => HTW.out.dq.1 e.symm); have y1 : w5.cell? ⟨q, 1, none⟩ = some (.slice AU nU cU) := hp5.cell 1; have f1 := hp5.frozen 1; clear hp5; refine step_append (by rfl) (.tmp 35) (.tmp 42) 57 57 (by rfl) _ _ (by rfl) (by rfl) hrun5 ?_; clear hrun5))
        all_goals
          have HPU := HTW.out.pushed (wa := (wr.alloc (.cells #[.int .i64 0, .int .i64 (-1), .int .u8 (x.toNat : Int)] 67)).drew) (Below.drewN_ ((Below.refl _ _).alloc (Nat.le_refl _) _) 1) grow5 (us' := s.us ++ wUs false (bs.take (k + 1))) (by rw [HX.out, ucells_append]; exact own5) (by rw [HX.out, List.length_append, HML.out]; rfl) at5
          obtain ⟨t6, k6, g6⟩ := HPU
          have HI6 : Hid (InvRW w q s false bs L F (.int .i64 ((k + 1 : Nat) : Int)) (w5.setCell ⟨q, 1, none⟩ (.slice A5 (M + 1) c5))) :=
            ⟨k + 1, g, r0, r1, A5, _, c5, _, by rw [HN.out]; omega, rfl, t6, HK.out.trans HGR.out k6, fun b hb => (g6 b hb).elim (HGR.out b) (fun e => .inr (Nat.le_trans HK.out.size e))⟩
          clear own5 grow5 at5 t6 k6 g6 HTW HK HGR HRN HUS x1 ax1 e0 ae0 y1 f1
          go_wp2_with fail
          go_roundw
          case rel => exact HI6.out
          case measure => simp [intOf]; omega
      · obtain rfl : k = n := by omega
        have HFIN : Hid (Did (fun w' => Rt w' q (s.did (wUs false bs))) F (.returned (.int .i64 0)) w (.returned (.int .i64 0)) wr) := by
          have ht := HTW.out
          rw [List.take_of_length_le (by rw [HN.out]; exact Nat.le_refl _)] at ht
          exact ⟨rfl, F', ⟨g, r0, r1, _, L, ht, HL.out⟩, HK.out, HGR.out⟩
        clear HTW HK HGR
        go_wp2_with fail
        go_ret
        exact HFIN.out
  · simp only [sdI] at *
    go_enter Try.func26, Try.ntmps26
    go_wp2_with fail
    refine HRR.out.mono ?_
    rintro e w' ⟨rfl, rfl⟩
    go_wp2_with fail
    refine HC.out.mono ?_
    rintro e w2 ⟨A2, c2, rfl, _, _, hb2⟩
    have HT2 := Lib.hid (HT.out.below hb2)
    have HB2 := Lib.hid hb2
    clear hb2 HC HRR
    go_wp2_with fail
    refine (rburn_any HT2.out HG.out).mono ?_
    rintro e w3 ⟨rfl, hk3, g, r0, r1, uv, L, h3, hL⟩
    obtain ⟨AU, cU, hu, _, _⟩ := h3.us.slice
    subst hu
    have HK3 : Hid (Kept F w w3) := (Kept.of_below F HB2.out).trans (Grew.refl _ _) (hk3.mono fun b e => e ▸ h3.fpq)
    have HL := Lib.hid hL
    have HI : Hid (InvRW w q s true bs L F (.int .i64 0) w3) := ⟨0, g, r0, r1, AU, _, cU, F, by omega, rfl, by simpa [wUs] using h3, HK3.out, Grew.refl _ _⟩
    clear h3 hk3 hL HT2 HG HK3 hw hlt
    go_wp2_with fail
    go_loopw [8] (fun i wr => InvRW w q s true bs L F i wr) (fun i _ => n - (intOf i).toNat)
    case atStart => exact HI.out
    case round =>
      clear HI
      obtain ⟨k, g, r0, r1, AU, nU, cU, F', hk, rfl, ht, hkp, hgr⟩ := hrel
      rw [HN.out] at hk
      have HTW := Lib.hid ht
      have HK := Lib.hid hkp
      have HGR := Lib.hid hgr
      clear ht hkp hgr
      by_cases hlt : k < n
      · have hlt' : (k : Int) < (n : Int) := by omega
        have hkl : k < bs.length := by rw [HN.out]; exact hlt
        have hrd : Rd wr A (bvals bs) := HRD.out.kept HK.out fun a ha => HA.out a ha (fun e => by rw [e] at hkl; simp at hkl)
        obtain ⟨b, off, hAe, hbl, hc⟩ := hrd.at (j := k) (by rw [bvals_length]; omega)
        subst hAe
        have e0 := hc _ _ (bvals_at bs k hkl)
        obtain ⟨x, hx⟩ : ∃ x, bs.getD k 0 = x := ⟨_, rfl⟩
        rw [hx] at e0
        unfold bval at e0
        have ae0 : ∀ o', (wr.alloc o').cell? ⟨b, off + k, none⟩ = some (.int .u8 (x.toNat : Int)) := fun o' => (World.cell?_alloc_lt wr o' _ hbl).trans e0
        have HX : Hid (s.us ++ wUs true (bs.take (k + 1)) = (s.us ++ wUs true (bs.take k)) ++ [⟨true, none, x⟩]) := by
          unfold Hid
          rw [← List.take_append_getElem hkl]
          rw [List.getD_eq_getElem?_getD, List.getElem?_eq_getElem hkl] at hx
          simp at hx
          simp [wUs, hx]
        obtain ⟨M, hM⟩ : ∃ M, (s.us ++ wUs true (bs.take k)).length = M := ⟨_, rfl⟩
        have HML := Lib.hid hM
        have HLEN : Hid (M ≤ 1100000) := by
          unfold Hid
          rw [← hM]
          rw [List.length_append, wUs_length, List.length_take]
          have := HUL.out
          omega
        have x1 : wr.cell? ⟨q, 1, none⟩ = some (.slice AU nU cU) := HTW.out.ptr.cell 1
        have ax1 : ∀ o', (wr.alloc o').cell? ⟨q, 1, none⟩ = some (.slice AU nU cU) := fun o' => (HTW.out.ptr.alloc o').cell 1
        have HRN : Hid (Rd (wr.alloc (.cells #[.int .i64 1, .int .i64 (-1), .int .u8 (x.toNat : Int)] 67)).drew (some ⟨wr.heap.size, 0, none⟩) (ucells [⟨true, none, x⟩])) := (Rd.of_blk (cs := ucells [⟨true, none, x⟩]) (Blk.new wr 67 _) 0).drew
        have HUS : Hid (GOwn (wr.alloc (.cells #[.int .i64 1, .int .i64 (-1), .int .u8 (x.toNat : Int)] 67)).drew 67 3 (.slice AU nU cU) M (ucells (s.us ++ wUs true (bs.take k)))) := hM ▸ HTW.out.us.keep fun b' hb' => Below.heap_alloc wr _ b' (HTW.out.us.lt hb')
        clear hc hrd hx hM
        go_wp2_with fail
        go_region_law ((obtain ⟨v5, w5, hrun5, own5, grow5, at5⟩ := g_app (w := (wr.alloc (.cells #[.int .i64 1, .int .i64 (-1), .int .u8 (x.toNat : Int)] 67)).drew) runE 57 HUS.out (A := some ⟨wr.heap.size, 0, none⟩) (news := ucells [⟨true, none, x⟩]) 1 1 HRN.out rfl (ucells_one _) (by have := HLEN.out; omega) (by have := HLEN.out; unfold maxLen; omega); obtain ⟨A5, c5, rfl, _, _⟩ := own5.slice; have hp5 : Blk w5 q 59 _ := ((HTW.out.ptr.alloc _).drew).grown grow5 (fun e => HTW.out.dq.1 e.symm); have y1 : w5.cell? ⟨q, 1, none⟩ = some (.slice AU nU cU) := hp5.cell 1; have f1 := hp5.frozen 1; clear hp5; refine step_append (by rfl) (.tmp 35) (.tmp 42) 57 57 (by rfl) _ _ (by rfl) (by rfl) hrun5 ?_; clear hrun5))
        all_goals
          have HPU := HTW.out.pushed (wa := (wr.alloc (.cells #[.int .i64 1, .int .i64 (-1), .int .u8 (x.toNat : Int)] 67)).drew) (Below.drewN_ ((Below.refl _ _).alloc (Nat.le_refl _) _) 1) grow5 (us' := s.us ++ wUs true (bs.take (k + 1))) (by rw [HX.out, ucells_append]; exact own5) (by rw [HX.out, List.length_append, HML.out]; rfl) at5
          obtain ⟨t6, k6, g6⟩ := HPU
          have HI6 : Hid (InvRW w q s true bs L F (.int .i64 ((k + 1 : Nat) : Int)) (w5.setCell ⟨q, 1, none⟩ (.slice A5 (M + 1) c5))) :=
            ⟨k + 1, g, r0, r1, A5, _, c5, _, by rw [HN.out]; omega, rfl, t6, HK.out.trans HGR.out k6, fun b hb => (g6 b hb).elim (HGR.out b) (fun e => .inr (Nat.le_trans HK.out.size e))⟩
          clear own5 grow5 at5 t6 k6 g6 HTW HK HGR HRN HUS x1 ax1 e0 ae0 y1 f1
          go_wp2_with fail
          go_roundw
          case rel => exact HI6.out
          case measure => simp [intOf]; omega
      · obtain rfl : k = n := by omega
        have HFIN : Hid (Did (fun w' => Rt w' q (s.did (wUs true bs))) F (.returned (.int .i64 0)) w (.returned (.int .i64 0)) wr) := by
          have ht := HTW.out
          rw [List.take_of_length_le (by rw [HN.out]; exact Nat.le_refl _)] at ht
          exact ⟨rfl, F', ⟨g, r0, r1, _, L, ht, HL.out⟩, HK.out, HGR.out⟩
        clear HTW HK HGR
        go_wp2_with fail
        go_ret
        exact HFIN.out
end Go.Proofs.Ytpcmfbdlfjlobaa
