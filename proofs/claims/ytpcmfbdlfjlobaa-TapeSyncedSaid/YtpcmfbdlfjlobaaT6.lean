/- Trim, Clear, Sync, Read, New. -/
import Derived.Test.YtpcmfbdlfjlobaaT5
namespace Go.Proofs.Ytpcmfbdlfjlobaa
open Go.RowKit
set_option linter.unusedVariables false
attribute [local go_sem ↓] Go.wp_at_zero Go.wp_at_succ
theorem rdy_left {s : TSt} {side : Int} (h : rdyN s side = 0) (hb : s.burns = true) : s.left ≠ 0 := fun h0 => by
  unfold rdyN at h
  split at h
  · cases h
  · rw [if_pos ⟨hb, h0⟩] at h
    cases h
theorem rdy_side {s : TSt} {side : Int} (h : rdyN s side = 0) : ∃ o, side = sdI o := by
  unfold rdyN at h
  split at h
  · cases h
  · rename_i h1
    rcases (show side = 0 ∨ side = 1 by omega) with rfl | rfl
    · exact ⟨false, rfl⟩
    · exact ⟨true, rfl⟩
theorem trim_rdy {w : World} {p : Nat} {s : TSt} {F : Nat → Prop} (side : Int) (v : Value) (h : Tp w p s F) (hr : rdyN s side ≠ 0) :
    Calls Try.prog 24 #[.pointer (some ⟨p, 0, none⟩), .int .i64 side, v] w fun e w' => e = .returned (.int .i64 (rdyN s side)) ∧ w = w' := by
  have HR := Lib.hid (ready_any side h)
  clear h
  have hne : (rdyN s side != 0) = true := by simpa using hr
  generalize rdyN s side = r at *
  go_enter Try.func24, Try.ntmps24
  go_wp2_with fail
  refine HR.out.mono ?_
  rintro e w' ⟨rfl, rfl⟩
  go_wp2
  go_ret
  exact ⟨rfl, rfl⟩
theorem trim_bad {w : World} {p : Nat} {s : TSt} {F : Nat → Prop} (o : Bool) (n : Int) (h : Tp w p s F) (hg : s.good) (hr : rdyN s (sdI o) = 0) (hn : n < 0 ∨ ((s.now.get o).length : Int) < n) :
    Calls Try.prog 24 #[.pointer (some ⟨p, 0, none⟩), .int .i64 (sdI o), .int .i64 n] w fun e w' => e = .returned (.int .i64 1) ∧ w = w' := by
  have HR := ready_any (sdI o) h
  rw [hr] at HR
  obtain ⟨B, d, hc, _, _, _⟩ := tp_now h o
  clear h hr hg
  generalize (s.now.get o).length = m at *
  have HRR := Lib.hid HR
  clear HR
  rcases hn with hn | hn
  · cases o
    all_goals
      simp only [sdI] at *
      go_enter Try.func24, Try.ntmps24
      go_wp2_with fail
      refine HRR.out.mono ?_
      rintro e w' ⟨rfl, rfl⟩
      go_wp2
      go_ret
      exact ⟨rfl, rfl⟩
  · have h0 : decide (n < 0) = false := by simp; omega
    cases o
    all_goals
      simp only [sdI] at *
      go_enter Try.func24, Try.ntmps24
      go_wp2_with fail
      refine HRR.out.mono ?_
      rintro e w' ⟨rfl, rfl⟩
      go_wp2
      go_ret
      exact ⟨rfl, rfl⟩
theorem trim_any {w : World} {p : Nat} {s : TSt} {F : Nat → Prop} (o : Bool) (k : Nat) (h : Tp w p s F) (hg : s.good) (hr : rdyN s (sdI o) = 0) (hk : k ≤ (s.now.get o).length) (hl2 : s.us.length ≤ 1000000) :
    Calls Try.prog 24 #[.pointer (some ⟨p, 0, none⟩), .int .i64 (sdI o), .int .i64 (k : Int)] w (Did (fun w' => Tp w' p (s.did [⟨o, some k, 0⟩])) F (.returned (.int .i64 0)) w) := by
  have HR := ready_any (sdI o) h
  rw [hr] at HR
  obtain ⟨B, d, hc, _, _, _⟩ := tp_now h o
  have hz := hg.now o
  have HOK : Hid (okUs s.now [⟨o, some k, 0⟩]) := okUs_cut s.now o k (okUs_run hg.ok) hk
  have HDO := fun (a : Int) (ha : a = if o then 1 else 0) => does_any (w := w.alloc (.cells #[.int .i64 a, .int .i64 (k : Int), .int .u8 0] 61)) (some ⟨w.heap.size, 0, none⟩) 1 [⟨o, some k, 0⟩] (h.below ((Below.refl _ _).alloc (Nat.le_refl _) _)) hg (by rw [ha]; exact Rd.of_blk (cs := ucells [⟨o, some k, 0⟩]) (Blk.new w 61 _) 0) HOK.out (fun a' ha' => by cases ha'; exact ⟨fun hF => by have := h.lt _ hF; simp at this, by simp⟩) (by simp) hl2 (rdy_left hr)
  have h0 : decide ((k : Int) < 0) = false := by simp
  have h1 : decide (((s.now.get o).length : Int) < (k : Int)) = false := by simp; omega
  have HRR := Lib.hid HR
  have HDD := Lib.hid HDO
  clear HR h hr hg HDO HOK
  generalize (s.now.get o).length = m at *
  have hFIN : Hid (∀ (x : Value) (w6 : World) , Did (fun w' => Tp w' p (s.did [⟨o, some k, 0⟩])) F (.returned (.int .i64 0)) (w.alloc (.cells #[x, .int .i64 (k : Int), .int .u8 0] 61)) (.returned (.int .i64 0)) w6 → Did (fun w' => Tp w' p (s.did [⟨o, some k, 0⟩])) F (.returned (.int .i64 0)) w (.returned (.int .i64 0)) w6) := fun x w6 ⟨_, F6, ht6, hk6, hg6⟩ =>
    ⟨rfl, F6, ht6, ((Kept.refl F w).alloc _).trans (Grew.refl _ _) hk6, fun b hb => (hg6 b hb).imp id (fun e => by simp at e; omega)⟩
  cases o
  · simp only [sdI] at *
    go_enter Try.func24, Try.ntmps24
    go_wp2_with fail
    refine HRR.out.mono ?_
    rintro e w' ⟨rfl, rfl⟩
    go_wp2_with fail
    refine (HDD.out 0 rfl).mono ?_
    rintro e w6 ⟨rfl, hd⟩
    have HF := Lib.hid (hFIN.out _ w6 ⟨rfl, hd⟩)
    clear hd
    go_wp2_with fail
    go_ret
    exact HF.out
  · simp only [sdI] at *
    go_enter Try.func24, Try.ntmps24
    go_wp2_with fail
    refine HRR.out.mono ?_
    rintro e w' ⟨rfl, rfl⟩
    go_wp2_with fail
    refine (HDD.out 1 rfl).mono ?_
    rintro e w6 ⟨rfl, hd⟩
    have HF := Lib.hid (hFIN.out _ w6 ⟨rfl, hd⟩)
    clear hd
    go_wp2_with fail
    go_ret
    exact HF.out
theorem clear_rdy {w : World} {p : Nat} {s : TSt} {F : Nat → Prop} (side : Int) (h : Tp w p s F) (hr : rdyN s side ≠ 0) :
    Calls Try.prog 25 #[.pointer (some ⟨p, 0, none⟩), .int .i64 side] w fun e w' => e = .returned (.int .i64 (rdyN s side)) ∧ w = w' := by
  have HT := Lib.hid (trim_rdy side (.int .i64 0) h hr)
  clear h hr
  go_enter Try.func25, Try.ntmps25
  go_wp2_with fail
  refine HT.out.mono ?_
  rintro e w' ⟨rfl, rfl⟩
  go_wp2
  go_ret
  exact ⟨rfl, rfl⟩
theorem clear_any {w : World} {p : Nat} {s : TSt} {F : Nat → Prop} (o : Bool) (h : Tp w p s F) (hg : s.good) (hr : rdyN s (sdI o) = 0) (hl2 : s.us.length ≤ 1000000) :
    Calls Try.prog 25 #[.pointer (some ⟨p, 0, none⟩), .int .i64 (sdI o)] w (Did (fun w' => Tp w' p (s.did [⟨o, some 0, 0⟩])) F (.returned (.int .i64 0)) w) := by
  have HT := Lib.hid (trim_any o 0 h hg hr (by omega) hl2)
  clear h hr hg
  generalize sdI o = side at *
  go_enter Try.func25, Try.ntmps25
  go_wp2_with fail
  refine HT.out.mono ?_
  rintro e w' ⟨rfl, hd⟩
  have HF : Hid (Did (fun w' => Tp w' p (s.did [⟨o, some 0, 0⟩])) F (.returned (.int .i64 0)) w (.returned (.int .i64 0)) w') := ⟨rfl, hd⟩
  clear hd
  go_wp2
  go_ret
  exact HF.out
theorem sync_rdy {w : World} {p : Nat} {s : TSt} {F : Nat → Prop} (h : Tp w p s F) (hr : rdyN s 0 ≠ 0) :
    Calls Try.prog 18 #[.pointer (some ⟨p, 0, none⟩)] w fun e w' => e = .returned (.int .i64 (rdyN s 0)) ∧ w = w' := by
  have HR := Lib.hid (ready_any 0 h)
  clear h
  have hne : (rdyN s 0 != 0) = true := by simpa using hr
  generalize rdyN s 0 = r at *
  go_enter Try.func18, Try.ntmps18
  go_wp2_with fail
  refine HR.out.mono ?_
  rintro e w' ⟨rfl, rfl⟩
  go_wp2
  go_ret
  exact ⟨rfl, rfl⟩
def Told (bs : List UInt8) (r : Int) (w : World) (e : Ending) (w' : World) : Prop := ∃ A c, e = .returned (.tuple #[.slice A bs.length c, .int .i64 r]) ∧ GOwn w' 5 1 (.slice A bs.length c) bs.length (bvals bs) ∧ (∀ a, A = some a → w.heap.size ≤ a.block ∧ a.block < w'.heap.size) ∧ Below w.heap.size w w'
theorem read_rdy {w : World} {p : Nat} {s : TSt} {F : Nat → Prop} (side : Int) (h : Tp w p s F) (hr : rdyN s side ≠ 0) :
    Calls Try.prog 16 #[.pointer (some ⟨p, 0, none⟩), .int .i64 side] w fun e w' => e = .returned (.tuple #[.slice none 0 0, .int .i64 (rdyN s side)]) ∧ w = w' := by
  have HR := Lib.hid (ready_any side h)
  clear h
  have hne : (rdyN s side != 0) = true := by simpa using hr
  generalize rdyN s side = r at *
  go_enter Try.func16, Try.ntmps16
  go_wp2_with fail
  refine HR.out.mono ?_
  rintro e w' ⟨rfl, rfl⟩
  go_wp2
  exact bodyPost_ret (v := .tuple #[.slice none 0 0, .int .i64 r]) (by simp [results, Try.results16, go_sem]) rfl ⟨rfl, rfl⟩
set_option maxRecDepth 100000 in
set_option maxHeartbeats 2000000 in
theorem read_any {w : World} {p : Nat} {s : TSt} {F : Nat → Prop} (o : Bool) (h : Tp w p s F) (hg : s.good) (hr : rdyN s (sdI o) = 0) :
    Calls Try.prog 16 #[.pointer (some ⟨p, 0, none⟩), .int .i64 (sdI o)] w (Told (s.now.get o) 0 w) := by
  have HR := ready_any (sdI o) h
  rw [hr] at HR
  obtain ⟨B, d, hc, ho, hl, hm⟩ := tp_now h o
  have hz := hg.now o
  have HC := Lib.hid (clone_any B d (s.now.get o) w ho.rd (by omega))
  have HRR := Lib.hid HR
  clear HR h hr hg ho
  generalize s.now.get o = bs at *
  generalize hbl : bs.length = m at *
  have HBL := Lib.hid hbl
  clear hbl
  cases o
  all_goals
    simp only [sdI] at *
    go_enter Try.func16, Try.ntmps16
    go_wp2_with fail
    refine HRR.out.mono ?_
    rintro e w' ⟨rfl, rfl⟩
    go_wp2_with fail
    refine HC.out.mono ?_
    rintro e w5 ⟨A5, c5, rfl, own5, hg5, hb5⟩
    have HF : Hid (Told bs 0 w (.returned (.tuple #[.slice A5 bs.length c5, .int .i64 0])) w5) := ⟨A5, c5, rfl, own5, hg5, hb5⟩
    clear own5 hg5 hb5 HC
    go_wp2_with fail
    exact bodyPost_ret (v := .tuple #[.slice A5 bs.length c5, .int .i64 0]) (by simp [results, Try.results16, go_sem]) rfl HF.out
set_option maxRecDepth 100000 in
set_option maxHeartbeats 2000000 in
theorem sync_any {w : World} {p : Nat} {s : TSt} {F : Nat → Prop} (h : Tp w p s F) (hg : s.good) (hr : rdyN s 0 = 0) :
    Calls Try.prog 18 #[.pointer (some ⟨p, 0, none⟩)] w (Did (fun w' => Tp w' p s.synced) F (.returned (.int .i64 0)) w) := by
  have HR := ready_any 0 h
  rw [hr] at HR
  have HRR := Lib.hid HR
  have HG := Lib.hid hg
  obtain ⟨s0, s1, n0, n1, uv, L, h, hL⟩ := h
  obtain ⟨L', hL'⟩ : ∃ L', IntKind.i64.wrap (L - 1) = L' := ⟨_, rfl⟩
  have HL : Hid (s.burns = true → L' = s.left - 1) := fun hb => by
    have h2 := rdy_left hr hb
    rw [← hL', hL hb]
    have h1 := hg.l0 hb
    exact IntWalk.i64_in _ (by omega)
  have x6 : w.cell? ⟨p, 6, none⟩ = some (.int .i64 L) := h.ptr.cell 6
  have f6 := h.ptr.frozen 6
  have hp1 := h.ptr.set_ 6 (.int .i64 L')
  have HT0 : Hid (TpW (w.setCell ⟨p, 6, none⟩ (.int .i64 L')) p s.safe s.now s.us s.burns L' F s0 s1 n0 n1 uv) := h.fuse ((Kept.refl (fun b => b = p) w).set (p := ⟨p, 6, none⟩) (.inl rfl) _) hp1
  have HK0 : Hid (Kept F w (w.setCell ⟨p, 6, none⟩ (.int .i64 L'))) := (Kept.refl F w).set (p := ⟨p, 6, none⟩) (.inl h.fpp) _
  obtain ⟨A0, c0, hn0, _, _⟩ := h.now.o0.slice
  obtain ⟨A1, c1, hn1, _, _⟩ := h.now.o1.slice
  obtain ⟨B0, d0, hs0, _, _⟩ := h.safe.o0.slice
  obtain ⟨B1, d1, hs1, _, _⟩ := h.safe.o1.slice
  obtain ⟨AU, cU, hu, _, _⟩ := h.us.slice
  subst hn0 hn1 hs0 hs1 hu
  have x2 : (w.setCell ⟨p, 6, none⟩ (.int .i64 L')).cell? ⟨p, 2, none⟩ = some (.slice A0 s.now.a.length c0) := hp1.cell 2
  have x3 : (w.setCell ⟨p, 6, none⟩ (.int .i64 L')).cell? ⟨p, 3, none⟩ = some (.slice A1 s.now.b.length c1) := hp1.cell 3
  have HC := Lib.hid (copied_any _ _ s.now (w.setCell ⟨p, 6, none⟩ (.int .i64 L')) HT0.out.now (okUs_run hg.ok))
  clear h hr hg hL hp1 HR
  go_enter Try.func18, Try.ntmps18
  go_wp2_with fail
  refine HRR.out.mono ?_
  rintro e w' ⟨rfl, rfl⟩
  go_wp2_with fail
  generalize hW : w.setCell ⟨p, 6, none⟩ (.int .i64 L') = W at *
  clear hW x6 f6
  refine HC.out.mono ?_
  rintro e w5 ⟨C0, e0, C1, e1, rfl, pr5, b5, g5⟩
  have hp5 := HT0.out.ptr.below b5 (HT0.out.lt p HT0.out.fpp)
  have y0 : w5.cell? ⟨p, 0, none⟩ = some (.slice B0 s.safe.a.length d0) := hp5.cell 0
  have y1 : w5.cell? ⟨p, 1, none⟩ = some (.slice B1 s.safe.b.length d1) := hp5.cell 1
  have y4 : w5.cell? ⟨p, 4, none⟩ = some (.slice AU s.us.length cU) := hp5.cell 4
  have f0 := hp5.frozen 0
  have f1 := hp5.frozen 1
  have f4 := hp5.frozen 4
  have HP := Lib.hid hp5
  have HPR := Lib.hid pr5
  have HB := Lib.hid b5
  have HGG := Lib.hid g5
  clear hp5 pr5 b5 g5 x2 x3 HC HRR
  have HFIN : Hid (Did (fun w' => Tp w' p s.synced) F (.returned (.int .i64 0)) w (.returned (.int .i64 0)) (((w5.setCell ⟨p, 0, none⟩ (.slice C0 s.now.a.length e0)).setCell ⟨p, 1, none⟩ (.slice C1 s.now.b.length e1)).setCell ⟨p, 4, none⟩ (.slice none 0 0))) := by
    have hkb : Kept (fun b => b = p) W (((w5.setCell ⟨p, 0, none⟩ (.slice C0 s.now.a.length e0)).setCell ⟨p, 1, none⟩ (.slice C1 s.now.b.length e1)).setCell ⟨p, 4, none⟩ (.slice none 0 0)) :=
      (((Kept.of_below (fun b => b = p) HB.out).set (p := ⟨p, 0, none⟩) (.inl rfl) _).set (p := ⟨p, 1, none⟩) (.inl rfl) _).set (p := ⟨p, 4, none⟩) (.inl rfl) _
    have hne : ∀ b, blk (.slice C0 s.now.a.length e0) (.slice C1 s.now.b.length e1) b → b ≠ p := fun b hb e => by
      have h1 := HGG.out b hb
      have h2 := HT0.out.lt p HT0.out.fpp
      omega
    have hpr6 : Pr (((w5.setCell ⟨p, 0, none⟩ (.slice C0 s.now.a.length e0)).setCell ⟨p, 1, none⟩ (.slice C1 s.now.b.length e1)).setCell ⟨p, 4, none⟩ (.slice none 0 0)) (.slice C0 s.now.a.length e0) (.slice C1 s.now.b.length e1) s.now := HPR.out.keep fun b hb =>
      (Below.heap_setCell _ _ _ b (by simpa using hne b hb)).trans ((Below.heap_setCell _ _ _ b (by simpa using hne b hb)).trans (Below.heap_setCell _ _ _ b (by simpa using hne b hb)))
    have ht := HT0.out.sync hkb (((HP.out.set_ 0 _).set_ 1 _).set_ 4 _) hpr6 HGG.out
    refine ⟨rfl, _, ⟨_, _, _, _, _, _, ht, HL.out⟩, HK0.out.trans (Grew.refl _ _) (hkb.mono fun b e => e ▸ HT0.out.fpp), fun b hb => ?_⟩
    rcases hb with hb | hb
    · exact .inl hb
    · exact .inr (Nat.le_trans HK0.out.size (HGG.out b hb))
  clear HP HPR HB HGG HT0 HK0 HL HG
  go_wp2_with fail
  go_ret
  exact HFIN.out
/-- A pointer to a new tape. -/
def Made (R : World → Nat → (Nat → Prop) → Prop) (w : World) (e : Ending) (w' : World) : Prop := ∃ p F, e = .returned (.pointer (some ⟨p, 0, none⟩)) ∧ R w' p F ∧ (∀ b, F b → w.heap.size ≤ b) ∧ Below w.heap.size w w'
theorem new_any (w : World) : Calls Try.prog 9 #[] w (Made (fun w' p => Tp w' p t0) w) := by
  have HFIN : Hid (Made (fun w' p => Tp w' p t0) w (.returned (.pointer (some ⟨w.heap.size, 0, none⟩))) (w.alloc (.cells #[.slice none 0 0, .slice none 0 0, .slice none 0 0, .slice none 0 0, .slice none 0 0, .bool false, .int .i64 0] 55))) := by
    have hp := Blk.new w 55 [.slice none 0 0, .slice none 0 0, .slice none 0 0, .slice none 0 0, .slice none 0 0, .bool false, .int .i64 0]
    have nb : ∀ b, ¬ blk (.slice none 0 0) (.slice none 0 0) b := fun b hb => by simp [blk, Value.ownBlock] at hb
    refine ⟨w.heap.size, fun b => b = w.heap.size, rfl, ⟨_, _, _, _, _, 0, ⟨hp, Pr.nil _, Pr.nil _, GOwn.nil _ _ _, fun b hb => (nb b hb).elim, fun b hb => by simp [Value.ownBlock] at hb, ⟨nb _, nb _, by simp [Value.ownBlock]⟩, rfl, fun b hb => (nb b hb).elim, fun b hb => (nb b hb).elim, fun b hb => by simp [Value.ownBlock] at hb, fun b hb => by subst hb; exact hp.lt⟩, fun hb => by cases hb⟩, fun b hb => Nat.le_of_eq hb.symm, (Below.refl _ _).alloc (Nat.le_refl _) _⟩
  go_enter Try.func9, Try.ntmps9
  go_wp2
  go_ret
  exact HFIN.out
end Go.Proofs.Ytpcmfbdlfjlobaa
