/- Crash: the power goes, and comes back. -/
import Derived.Test.YtpcmfbdlfjlobaaT6
namespace Go.Proofs.Ytpcmfbdlfjlobaa
open Go.RowKit
set_option linter.unusedVariables false
attribute [local go_sem ↓] Go.wp_at_zero Go.wp_at_succ
/-- The sides, rebuilt so far. -/
def InvK (w : World) (Q : Nat) (s : TSt) (K : Nat) (i : Value) (wr : World) : Prop := ∃ (k : Nat) (A0 : Option Addr) (m0 c0 : Nat) (A1 : Option Addr) (m1 c1 : Nat), k ≤ K ∧ i = .int .i64 (k : Int) ∧ Pr wr (.slice A0 m0 c0) (.slice A1 m1 c1) (runS s.safe (s.us.take k)) ∧ Blk wr Q 52 [.slice A0 m0 c0, .slice A1 m1 c1] ∧ Below w.heap.size w wr ∧ (∀ b, blk (.slice A0 m0 c0) (.slice A1 m1 c1) b → w.heap.size ≤ b ∧ b ≠ Q) ∧ w.heap.size ≤ Q
theorem InvK.drew_ {w wr : World} {Q : Nat} {s : TSt} {K : Nat} {i : Value} (h : InvK w Q s K i wr) : InvK w Q s K i wr.drew := by
  obtain ⟨k, A0, m0, c0, A1, m1, c1, h1, h2, h3, h4, h5, h6, h7⟩ := h
  exact ⟨k, A0, m0, c0, A1, m1, c1, h1, h2, h3.keep fun b hb => rfl, h4.drewN 1, Below.drewN_ h5 1, h6, h7⟩
set_option maxRecDepth 100000 in
set_option maxHeartbeats 8000000 in
theorem crash_any {w : World} {p : Nat} {s : TSt} {F : Nat → Prop} (n : Int) (h : Tp w p s F) (hg : s.good) (h0 : -9223372036854775808 ≤ n) (h1 : n ≤ 9223372036854775807) (hl : s.us.length ≤ 1000000) :
    Calls Try.prog 19 #[.pointer (some ⟨p, 0, none⟩), .int .i64 n] w (Did (fun w' => Tp w' p (s.crashed (pickF n (s.us.length + 1)))) F (.returned (.tuple #[])) w) := by
  obtain ⟨s0, s1, n0, n1, uv, L, h, hL⟩ := h
  have HOK : Hid (okUs s.safe s.us) := hg.ok
  obtain ⟨A0, c0, hn0, _, _⟩ := h.safe.o0.slice
  obtain ⟨A1, c1, hn1, _, _⟩ := h.safe.o1.slice
  obtain ⟨AU, cU, hu, hnc, hcm⟩ := h.us.slice
  subst hn0 hn1 hu
  have H := Lib.hid h
  have HS0 : Hid (s.safe.ok) := hg.ok.ok
  have x0 : w.cell? ⟨p, 0, none⟩ = some (.slice A0 s.safe.a.length c0) := h.ptr.cell 0
  have x1 : w.cell? ⟨p, 1, none⟩ = some (.slice A1 s.safe.b.length c1) := h.ptr.cell 1
  have HC := Lib.hid (copied_any _ _ s.safe w h.safe HS0.out)
  have HKL : Hid (pickF n (s.us.length + 1) < s.us.length + 1) := pick_lt _ _ (by omega)
  clear h hL hg
  have hkk : (decide (n < 0) = true ∧ IntKind.i64.wrap (n + 1) = n + 1 ∧ IntKind.i64.wrap (-(n + 1)) = -(n + 1) ∧ -(n + 1).tmod ((s.us.length : Int) + 1) = (pickF n (s.us.length + 1) : Int)) ∨ (decide (n < 0) = false ∧ True ∧ True ∧ n.tmod ((s.us.length : Int) + 1) = (pickF n (s.us.length + 1) : Int)) := by
    by_cases hn : n < 0
    · refine .inl ⟨by simpa using hn, IntWalk.i64_in _ (by omega), IntWalk.i64_in _ (by omega), ?_⟩
      unfold pickF
      rw [if_pos hn, ← Int.neg_tmod, Int.tmod_eq_emod_of_nonneg (by omega)]
      have := Int.emod_nonneg (-(n + 1)) (show ((s.us.length : Int) + 1) ≠ 0 by omega)
      rw [show (((s.us.length + 1 : Nat) : Int)) = (s.us.length : Int) + 1 by omega]
      omega
    · refine .inr ⟨by simpa using hn, trivial, trivial, ?_⟩
      unfold pickF
      rw [if_neg hn, Int.tmod_eq_emod_of_nonneg (by omega)]
      have := Int.emod_nonneg n (show ((s.us.length : Int) + 1) ≠ 0 by omega)
      rw [show (((s.us.length + 1 : Nat) : Int)) = (s.us.length : Int) + 1 by omega]
      omega
  generalize pickF n (s.us.length + 1) = K at *
  generalize hul : s.us.length = ul at *
  have HUL := Lib.hid hul
  clear hul
  have hK1 : (K : Int) ≤ (cU : Int) := by have := HKL.out; omega
  have hK0 : (0 : Int) ≤ (K : Int) := by omega
  have hw1 : IntKind.i64.wrap ((ul : Int) + 1) = (ul : Int) + 1 := IntWalk.i64_in _ (by omega)
  have hz : ((ul : Int) + 1) ≠ 0 := by omega
  rcases hkk with ⟨hd, hw2, hw3, hk⟩ | ⟨hd, hw2, hw3, hk⟩
  all_goals
    go_enter Try.func19, Try.ntmps19
    go_wp2_with fail
    refine HC.out.mono ?_
    rintro e w5 ⟨C0, e0, C1, e1, rfl, pr5, b5, g5⟩
    have HI : Hid (InvK w w5.heap.size s K (.int .i64 0) (w5.alloc (.cells #[.slice C0 s.safe.a.length e0, .slice C1 s.safe.b.length e1] 52))) :=
      ⟨0, C0, _, e0, C1, _, e1, by omega, rfl, by simpa [runS] using pr5.keep (fun b hb => Below.heap_alloc w5 _ b (pr5.lt b hb)), Blk.new w5 52 _, b5.alloc b5.size _, fun b hb => ⟨g5 b hb, fun e => by have := pr5.lt b hb; omega⟩, b5.size⟩
    have hp5 : Blk (w5.alloc (.cells #[.slice C0 s.safe.a.length e0, .slice C1 s.safe.b.length e1] 52)) p 55 _ := (H.out.ptr.below b5 (H.out.lt p H.out.fpp)).alloc _
    have y4 : (w5.alloc (.cells #[.slice C0 s.safe.a.length e0, .slice C1 s.safe.b.length e1] 52)).cell? ⟨p, 4, none⟩ = some (.slice AU ul cU) := hp5.cell 4
    clear pr5 b5 g5 x0 x1 hp5 HC
    go_wp2_with fail
    generalize w5.heap.size = Q at *
    generalize w5.alloc (.cells #[.slice C0 s.safe.a.length e0, .slice C1 s.safe.b.length e1] 52) = W at *
    refine still_lit (by kernel_rfl) (by kernel_rfl) ?_
    repeat still_step
    refine wpStill_nil ?_
    have HI2 : Hid (InvK w Q s K (.int .i64 0) W.drew) := HI.out.drew_
    clear y4 HI hd hw2 hw3 hk
    generalize W.drew = W2 at *
    go_wp2_with fail
    go_loopw [6, 31] (fun _ i wr => InvK w Q s K i wr) (fun _ i _ => K - (intOf i).toNat)
    case atStart => exact HI2.out
    case round =>
      clear HI2
      obtain ⟨k, D0, m0, d0, D1, m1, d1, hk, rfl, hpr, hbx, hb, hfr, hq⟩ := hrel
      have HPR := Lib.hid hpr
      have HBX := Lib.hid hbx
      have HB := Lib.hid hb
      have HFR := Lib.hid hfr
      have HQ : Hid (w.heap.size ≤ Q) := hq
      have HT := Lib.hid (H.out.below hb)
      clear hpr hbx hb hfr hq
      by_cases hlt : k < K
      · have hlt' : (k : Int) < (K : Int) := by omega
        have hku : k < ul := by have := HKL.out; omega
        have hkl : k < s.us.length := by rw [HUL.out]; exact hku
        obtain ⟨g, off, cap, hv, _, _, hgl⟩ := HT.out.us.form (by omega)
        obtain ⟨rfl, rfl⟩ : AU = some ⟨g, off, none⟩ ∧ cU = cap := by injection hv with e1 _ e2; exact ⟨e1, e2⟩
        obtain ⟨u, hu⟩ : ∃ u, s.us[k] = u := ⟨_, rfl⟩
        obtain ⟨z0, z1, z2, hcells⟩ : ∃ z0 z1 z2, u.cells = [.int .i64 z0, .int .i64 z1, .int .u8 z2] := ⟨_, _, _, rfl⟩
        have hus := HT.out.us
        rw [HUL.out] at hus
        have e0 := hus.cells _ _ (ucells_at s.us k hkl 0 (.int .i64 z0) (by rw [hu, hcells]; rfl))
        have e1 := hus.cells _ _ (ucells_at s.us k hkl 1 (.int .i64 z1) (by rw [hu, hcells]; rfl))
        have e2 := hus.cells _ _ (ucells_at s.us k hkl 2 (.int .u8 z2) (by rw [hu, hcells]; rfl))
        rw [← Nat.add_assoc] at e0 e1 e2
        rw [Nat.add_zero] at e0
        have HST : Hid (runS s.safe (s.us.take (k + 1)) = stepS (runS s.safe (s.us.take k)) u) := by
          have := runS_take_succ s.safe s.us k hkl
          rw [hu] at this
          exact this
        have hat := okUs_at HOK.out k hkl
        rw [hu] at hat
        have b0 : ∀ o, (wr.alloc o).cell? ⟨Q, 0, none⟩ = some (.slice D0 m0 d0) := fun o => (HBX.out.alloc o).cell 0
        have b1 : ∀ o, (wr.alloc o).cell? ⟨Q, 1, none⟩ = some (.slice D1 m1 d1) := fun o => (HBX.out.alloc o).cell 1
        have HDN : Hid (∀ o, Calls Try.prog 36 #[.agg #[.slice D0 m0 d0, .slice D1 m1 d1], .agg u.cells.toArray] (wr.alloc o) (Doned (.slice D0 m0 d0) (.slice D1 m1 d1) (stepS (runS s.safe (s.us.take k)) u) (wr.alloc o))) := fun o =>
          done_any u _ _ _ _ (HPR.out.keep fun b hb => Below.heap_alloc wr o b (HPR.out.lt b hb)) hat.1 hat.2
        rw [hcells] at HDN
        clear hu hat hcells hus hv
        go_wp2_with fail
        refine (HDN.out _).mono ?_
        rintro e w6 ⟨v0', v1', rfl, pr6, k6, g6⟩
        obtain ⟨E0, f0, hE0, _, _⟩ := pr6.o0.slice
        obtain ⟨E1, f1, hE1, _, _⟩ := pr6.o1.slice
        subst hE0 hE1
        have hnb : ¬ blk (.slice D0 m0 d0) (.slice D1 m1 d1) Q := fun hb => (HFR.out Q hb).2 rfl
        have hbx6 : Blk w6 Q 52 [.slice D0 m0 d0, .slice D1 m1 d1] := (k6.block (by simp; exact Nat.lt_succ_of_lt HBX.out.lt) hnb).trans (HBX.out.alloc _)
        have q0 : w6.cell? ⟨Q, 0, none⟩ = some (.slice D0 m0 d0) := hbx6.cell 0
        have q1 : w6.cell? ⟨Q, 1, none⟩ = some (.slice D1 m1 d1) := hbx6.cell 1
        have h0 := hbx6.frozen 0
        have h1 := hbx6.frozen 1
        have HINV : Hid (InvK w Q s K (.int .i64 ((k + 1 : Nat) : Int)) ((w6.setCell ⟨Q, 0, none⟩ (.slice E0 (stepS (runS s.safe (s.us.take k)) u).a.length f0)).setCell ⟨Q, 1, none⟩ (.slice E1 (stepS (runS s.safe (s.us.take k)) u).b.length f1))) := by
          have hfr6 : ∀ b, blk (.slice E0 (stepS (runS s.safe (s.us.take k)) u).a.length f0) (.slice E1 (stepS (runS s.safe (s.us.take k)) u).b.length f1) b → w.heap.size ≤ b ∧ b ≠ Q := fun b hb => by
            rcases g6 b hb with e | e
            · exact HFR.out b e
            · simp at e
              have h2 := HB.out.size
              have h3 := HBX.out.lt
              exact ⟨by omega, by omega⟩
          refine ⟨k + 1, E0, _, f0, E1, _, f1, by omega, rfl, ?_, (hbx6.set_ 0 _).set_ 1 _, ?_, hfr6, HQ.out⟩
          · rw [HST.out]
            exact pr6.keep fun b hb => (Below.heap_setCell _ _ _ b (by simpa using (hfr6 b hb).2)).trans (Below.heap_setCell _ _ _ b (by simpa using (hfr6 b hb).2))
          · have hb6 : Below w.heap.size w w6 := (HB.out.alloc HB.out.size _).trans (k6.below (fun b hb => (HFR.out b hb).1) (by simp; exact Nat.le_succ_of_le HB.out.size))
            exact (hb6.setCell HQ.out _).setCell HQ.out _
        clear pr6 k6 g6 hbx6 hnb HPR HBX HB HFR HDN e0 e1 e2 b0 b1 HT HST
        go_wp2_with fail
        go_roundw
        case rel => exact HINV.out
        case measure => simp [intOf]; omega
      · obtain rfl : k = K := by omega
        have p0 : wr.cell? ⟨Q, 0, none⟩ = some (.slice D0 m0 d0) := HBX.out.cell 0
        have p1 : wr.cell? ⟨Q, 1, none⟩ = some (.slice D1 m1 d1) := HBX.out.cell 1
        have HCP := Lib.hid (copied_any _ _ (runS s.safe (s.us.take k)) wr.drew (HPR.out.keep fun b hb => rfl) (okUs_run (okUs_take HOK.out k)))
        obtain ⟨N0, M0, hn0, _, _⟩ := H.out.now.o0.slice
        obtain ⟨N1, M1, hn1, _, _⟩ := H.out.now.o1.slice
        subst hn0 hn1
        have HTP : Hid (Blk wr.drew p 55 [.slice A0 s.safe.a.length c0, .slice A1 s.safe.b.length c1, .slice N0 s.now.a.length M0, .slice N1 s.now.b.length M1, .slice AU ul cU, .bool s.burns, .int .i64 L]) := HT.out.ptr.drewN 1
        have HQZ : Hid (Blk wr.drew Q 52 [.slice D0 m0 d0, .slice D1 m1 d1]) := HBX.out.drewN 1
        go_wp2_with fail
        go_region_law ((go_simp; go_at_call 35; refine HCP.out.mono ?_; rintro e w7 ⟨G0, l0, G1, l1, rfl, pr7, b7, g7⟩; have hp7 := HTP.out.below b7 HTP.out.lt; have hq7 := HQZ.out.below b7 HQZ.out.lt; have q0 : w7.cell? ⟨Q, 0, none⟩ = some (.slice D0 m0 d0) := hq7.cell 0; have q1 : w7.cell? ⟨Q, 1, none⟩ = some (.slice D1 m1 d1) := hq7.cell 1; have y0 : w7.cell? ⟨p, 0, none⟩ = some (.slice A0 s.safe.a.length c0) := hp7.cell 0; have y1 : w7.cell? ⟨p, 1, none⟩ = some (.slice A1 s.safe.b.length c1) := hp7.cell 1; have y2 : w7.cell? ⟨p, 2, none⟩ = some (.slice N0 s.now.a.length M0) := hp7.cell 2; have y3 : w7.cell? ⟨p, 3, none⟩ = some (.slice N1 s.now.b.length M1) := hp7.cell 3; have y4 : w7.cell? ⟨p, 4, none⟩ = some (.slice AU ul cU) := hp7.cell 4; have y5 : w7.cell? ⟨p, 5, none⟩ = some (.bool s.burns) := hp7.cell 5; have y6 : w7.cell? ⟨p, 6, none⟩ = some (.int .i64 L) := hp7.cell 6; have f0 := hp7.frozen 0; have f1 := hp7.frozen 1; have f2 := hp7.frozen 2; have f3 := hp7.frozen 3; have f4 := hp7.frozen 4; have f5 := hp7.frozen 5; have f6 := hp7.frozen 6; have HP7 := Lib.hid hp7; have HPR7 := Lib.hid pr7; have HB7 := Lib.hid b7; have HGG7 := Lib.hid g7; clear hp7 hq7 pr7 b7 g7))
        all_goals
          have HFIN : Hid (Did (fun w' => Tp w' p (s.crashed k)) F (.returned (.tuple #[])) w (.returned (.tuple #[])) (((((((w7.setCell ⟨p, 0, none⟩ (.slice D0 m0 d0)).setCell ⟨p, 1, none⟩ (.slice D1 m1 d1)).setCell ⟨p, 2, none⟩ (.slice G0 (runS s.safe (s.us.take k)).a.length l0)).setCell ⟨p, 3, none⟩ (.slice G1 (runS s.safe (s.us.take k)).b.length l1)).setCell ⟨p, 4, none⟩ (.slice none 0 0)).setCell ⟨p, 5, none⟩ (.bool false)).setCell ⟨p, 6, none⟩ (.int .i64 0))) := by
            have hb7 : Below w.heap.size w w7 := (Below.drewN_ HB.out 1).trans (HB7.out.mono HB.out.size)
            have hpz := H.out.lt p H.out.fpp
            have hk8 : ∀ b, b ≠ p → ((((((((w7.setCell ⟨p, 0, none⟩ (.slice D0 m0 d0)).setCell ⟨p, 1, none⟩ (.slice D1 m1 d1)).setCell ⟨p, 2, none⟩ (.slice G0 (runS s.safe (s.us.take k)).a.length l0)).setCell ⟨p, 3, none⟩ (.slice G1 (runS s.safe (s.us.take k)).b.length l1)).setCell ⟨p, 4, none⟩ (.slice none 0 0)).setCell ⟨p, 5, none⟩ (.bool false)).setCell ⟨p, 6, none⟩ (.int .i64 0))).heap[b]? = w7.heap[b]? := fun b hb => by
              refine (Below.heap_setCell _ _ _ b (by simpa using hb)).trans ?_
              refine (Below.heap_setCell _ _ _ b (by simpa using hb)).trans ?_
              refine (Below.heap_setCell _ _ _ b (by simpa using hb)).trans ?_
              refine (Below.heap_setCell _ _ _ b (by simpa using hb)).trans ?_
              refine (Below.heap_setCell _ _ _ b (by simpa using hb)).trans ?_
              refine (Below.heap_setCell _ _ _ b (by simpa using hb)).trans ?_
              exact Below.heap_setCell _ _ _ b (by simpa using hb)
            have hD : ∀ b, blk (.slice D0 m0 d0) (.slice D1 m1 d1) b → w.heap.size ≤ b := fun b hb => (HFR.out b hb).1
            have hG : ∀ b, blk (.slice G0 (runS s.safe (s.us.take k)).a.length l0) (.slice G1 (runS s.safe (s.us.take k)).b.length l1) b → wr.heap.size ≤ b := HGG7.out
            have hG2 : ∀ b, blk (.slice G0 (runS s.safe (s.us.take k)).a.length l0) (.slice G1 (runS s.safe (s.us.take k)).b.length l1) b → w.heap.size ≤ b := fun b hb => Nat.le_trans HB.out.size (hG b hb)
            have hs8 : Pr (((((((w7.setCell ⟨p, 0, none⟩ (.slice D0 m0 d0)).setCell ⟨p, 1, none⟩ (.slice D1 m1 d1)).setCell ⟨p, 2, none⟩ (.slice G0 (runS s.safe (s.us.take k)).a.length l0)).setCell ⟨p, 3, none⟩ (.slice G1 (runS s.safe (s.us.take k)).b.length l1)).setCell ⟨p, 4, none⟩ (.slice none 0 0)).setCell ⟨p, 5, none⟩ (.bool false)).setCell ⟨p, 6, none⟩ (.int .i64 0)) (.slice D0 m0 d0) (.slice D1 m1 d1) (runS s.safe (s.us.take k)) := HPR.out.keep fun b hb => (hk8 b (fun e => by have := hD b hb; omega)).trans (HB7.out.block b (HPR.out.lt b hb))
            have hn8 : Pr (((((((w7.setCell ⟨p, 0, none⟩ (.slice D0 m0 d0)).setCell ⟨p, 1, none⟩ (.slice D1 m1 d1)).setCell ⟨p, 2, none⟩ (.slice G0 (runS s.safe (s.us.take k)).a.length l0)).setCell ⟨p, 3, none⟩ (.slice G1 (runS s.safe (s.us.take k)).b.length l1)).setCell ⟨p, 4, none⟩ (.slice none 0 0)).setCell ⟨p, 5, none⟩ (.bool false)).setCell ⟨p, 6, none⟩ (.int .i64 0)) (.slice G0 (runS s.safe (s.us.take k)).a.length l0) (.slice G1 (runS s.safe (s.us.take k)).b.length l1) (runS s.safe (s.us.take k)) := HPR7.out.keep fun b hb => hk8 b (fun e => by have := hG2 b hb; omega)
            have hkf : Kept F w (((((((w7.setCell ⟨p, 0, none⟩ (.slice D0 m0 d0)).setCell ⟨p, 1, none⟩ (.slice D1 m1 d1)).setCell ⟨p, 2, none⟩ (.slice G0 (runS s.safe (s.us.take k)).a.length l0)).setCell ⟨p, 3, none⟩ (.slice G1 (runS s.safe (s.us.take k)).b.length l1)).setCell ⟨p, 4, none⟩ (.slice none 0 0)).setCell ⟨p, 5, none⟩ (.bool false)).setCell ⟨p, 6, none⟩ (.int .i64 0)) := (((((((Kept.of_below F hb7).set (p := ⟨p, 0, none⟩) (.inl H.out.fpp) _).set (p := ⟨p, 1, none⟩) (.inl H.out.fpp) _).set (p := ⟨p, 2, none⟩) (.inl H.out.fpp) _).set (p := ⟨p, 3, none⟩) (.inl H.out.fpp) _).set (p := ⟨p, 4, none⟩) (.inl H.out.fpp) _).set (p := ⟨p, 5, none⟩) (.inl H.out.fpp) _).set (p := ⟨p, 6, none⟩) (.inl H.out.fpp) _
            have ht := H.out.fresh hkf.size (bu' := false) (L' := 0) (((((((HP7.out.set_ 0 _).set_ 1 _).set_ 2 _).set_ 3 _).set_ 4 _).set_ 5 _).set_ 6 _) hs8 hn8 hD hG2 (fun b hb hb' => by have h1 := HPR.out.lt b hb; have h2 := hG b hb'; omega)
            refine ⟨rfl, _, ⟨_, _, _, _, _, 0, ht, fun hb => by cases hb⟩, hkf, fun b hb => ?_⟩
            rcases hb with hb | hb | hb
            · exact .inl hb
            · exact .inr (hD b hb)
            · exact .inr (hG2 b hb)
          clear HP7 HPR7 HB7 HGG7 HTP HQZ HPR HBX HB HFR HT HCP
          go_wp2_with fail
          go_end0
          exact HFIN.out
end Go.Proofs.Ytpcmfbdlfjlobaa
