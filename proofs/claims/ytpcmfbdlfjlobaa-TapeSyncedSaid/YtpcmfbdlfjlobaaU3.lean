/- Read, Trim, Sync, Crash of the reference. -/
import Derived.Test.YtpcmfbdlfjlobaaU2
namespace Go.Proofs.Ytpcmfbdlfjlobaa
open Go.RowKit
set_option linter.unusedVariables false
attribute [local go_sem ↓] Go.wp_at_zero Go.wp_at_succ
def TSt.burnt (s : TSt) : TSt := ⟨s.safe, s.us, s.burns, s.left - 1⟩
theorem TSt.good.burnt {s : TSt} (h : s.good) {side : Int} (hr : rdyN s side = 0) : s.burnt.good := ⟨h.ok, (h.did hr (l := []) (okUs_run h.ok)).l0⟩
theorem Burnt.rt {w : World} {q : Nat} {s : TSt} {F : Nat → Prop} {e : Ending} {w' : World} (h : Burnt w q s F e w') : e = .returned (.tuple #[]) ∧ Kept (fun b => b = q) w w' ∧ Rt w' q s.burnt F := ⟨h.1, h.2.1, by obtain ⟨_, _, g, r0, r1, uv, L, h1, h2⟩ := h; exact ⟨g, r0, r1, uv, L, h1, h2⟩⟩
theorem rread_rdy {w : World} {p : Nat} {s : TSt} {F : Nat → Prop} (side : Int) (h : Rt w p s F) (hr : rdyN s side ≠ 0) :
    Calls Try.prog 31 #[.pointer (some ⟨p, 0, none⟩), .int .i64 side] w fun e w' => e = .returned (.tuple #[.slice none 0 0, .int .i64 (rdyN s side)]) ∧ w = w' := by
  have HR := Lib.hid (rready_any side h)
  clear h
  have hne : (rdyN s side != 0) = true := by simpa using hr
  generalize rdyN s side = r at *
  go_enter Try.func31, Try.ntmps31
  go_wp2_with fail
  refine HR.out.mono ?_
  rintro e w' ⟨rfl, rfl⟩
  go_wp2
  exact bodyPost_ret (v := .tuple #[.slice none 0 0, .int .i64 r]) (by simp [results, Try.results31, go_sem]) rfl ⟨rfl, rfl⟩
theorem rread_any {w : World} {p : Nat} {s : TSt} {F : Nat → Prop} (o : Bool) (h : Rt w p s F) (hg : s.good) (hr : rdyN s (sdI o) = 0) (hl : s.us.length ≤ 1000000) :
    Calls Try.prog 31 #[.pointer (some ⟨p, 0, none⟩), .int .i64 (sdI o)] w (Told (s.now.get o) 0 w) := by
  have HR := rready_any (sdI o) h
  rw [hr] at HR
  have HC := Lib.hid (rnow_any o h hg hl)
  have HRR := Lib.hid HR
  clear HR h hr hg
  generalize s.now.get o = bs at *
  generalize sdI o = side at *
  go_enter Try.func31, Try.ntmps31
  go_wp2_with fail
  refine HRR.out.mono ?_
  rintro e w' ⟨rfl, rfl⟩
  go_wp2_with fail
  refine HC.out.mono ?_
  rintro e w5 ⟨A5, c5, rfl, own5, hg5, hb5⟩
  have HF : Hid (Told bs 0 w (.returned (.tuple #[.slice A5 bs.length c5, .int .i64 0])) w5) := ⟨A5, c5, rfl, own5, hg5, hb5⟩
  clear own5 hg5 hb5 HC
  go_wp2_with fail
  exact bodyPost_ret (v := .tuple #[.slice A5 bs.length c5, .int .i64 0]) (by simp [results, Try.results31, go_sem]) rfl HF.out
theorem rtrim_rdy {w : World} {p : Nat} {s : TSt} {F : Nat → Prop} (side : Int) (v : Value) (h : Rt w p s F) (hr : rdyN s side ≠ 0) :
    Calls Try.prog 27 #[.pointer (some ⟨p, 0, none⟩), .int .i64 side, v] w fun e w' => e = .returned (.int .i64 (rdyN s side)) ∧ w = w' := by
  have HR := Lib.hid (rready_any side h)
  clear h
  have hne : (rdyN s side != 0) = true := by simpa using hr
  generalize rdyN s side = r at *
  go_enter Try.func27, Try.ntmps27
  go_wp2_with fail
  refine HR.out.mono ?_
  rintro e w' ⟨rfl, rfl⟩
  go_wp2
  go_ret
  exact ⟨rfl, rfl⟩
theorem rtrim_bad {w : World} {p : Nat} {s : TSt} {F : Nat → Prop} (o : Bool) (n : Int) (h : Rt w p s F) (hg : s.good) (hr : rdyN s (sdI o) = 0) (hn : n < 0 ∨ ((s.now.get o).length : Int) < n) (hl : s.us.length ≤ 1000000) :
    Calls Try.prog 27 #[.pointer (some ⟨p, 0, none⟩), .int .i64 (sdI o), .int .i64 n] w fun e w' => e = .returned (.int .i64 1) ∧ Below w.heap.size w w' := by
  have HR := rready_any (sdI o) h
  rw [hr] at HR
  have HC := Lib.hid (rnow_any o h hg hl)
  have HRR := Lib.hid HR
  clear HR h hr hg
  generalize s.now.get o = bs at *
  generalize sdI o = side at *
  by_cases hn0 : n < 0
  · clear hn HC
    go_enter Try.func27, Try.ntmps27
    go_wp2_with fail
    refine HRR.out.mono ?_
    rintro e w' ⟨rfl, rfl⟩
    go_wp2
    go_ret
    exact ⟨rfl, Below.refl _ _⟩
  · have h0 : decide (n < 0) = false := by simpa using hn0
    have hlt : (bs.length : Int) < n := by omega
    clear hn
    go_enter Try.func27, Try.ntmps27
    go_wp2_with fail
    refine HRR.out.mono ?_
    rintro e w' ⟨rfl, rfl⟩
    go_wp2_with fail
    refine HC.out.mono ?_
    rintro e w5 ⟨A5, c5, rfl, own5, hg5, hb5⟩
    have HB := Lib.hid hb5
    clear own5 hg5 hb5
    go_wp2_with fail
    go_ret
    exact ⟨rfl, HB.out⟩
/-- Units behind the others. -/
theorem RtW.pushed {w wa w5 : World} {q g : Nat} {sf : Sd} {us us' : List Un} {bu : Bool} {L : Int} {F : Nat → Prop} {r0 r1 uv uv' : Value} {n' : Nat} (h : RtW w q sf us bu L F g r0 r1 uv) (hb : Below w.heap.size w wa) (grow5 : wa.grownBy w5 uv.ownBlock) (own5 : GOwn w5 67 3 uv' n' (ucells us')) (hn : n' = us'.length) (at5 : ∀ b, uv'.ownBlock = some b → uv.ownBlock = some b ∨ wa.heap.size ≤ b) :
    RtW (w5.setCell ⟨q, 1, none⟩ uv') q sf us' bu L (fun b => F b ∨ uv'.ownBlock = some b) g r0 r1 uv' ∧ Kept F w (w5.setCell ⟨q, 1, none⟩ uv') ∧ Grew F (fun b => F b ∨ uv'.ownBlock = some b) w := by
  subst hn
  have hqz := h.lt q h.fpq
  have at6 : ∀ b, uv'.ownBlock = some b → uv.ownBlock = some b ∨ w.heap.size ≤ b := fun b hb' => (at5 b hb').imp id fun e => Nat.le_trans hb.size e
  have hk5 : Kept (fun b => b = q ∨ uv.ownBlock = some b) w w5 := (Kept.of_below _ hb).grown grow5 (fun b hb => .inl (.inr hb))
  have hk6 := hk5.set (p := ⟨q, 1, none⟩) (.inl (.inl rfl)) uv'
  have hp5 : Blk w5 q 59 [.slice (some ⟨g, 0, none⟩) 2 2, uv, .bool bu, .int .i64 L] := (h.ptr.below hb hqz).grown grow5 (fun e => h.dq.1 e.symm)
  have own6 : GOwn (w5.setCell ⟨q, 1, none⟩ uv') 67 3 uv' us'.length (ucells us') := own5.keep fun b hb' => Below.heap_setCell _ _ _ b (fun e => by
    simp only at e
    subst e
    rcases at6 _ hb' with e | e
    · exact h.dq.1 e
    · omega)
  refine ⟨h.units hk6 (hp5.set_ 1 _) own6 at6, hk6.mono fun b hb => hb.elim (fun e => e ▸ h.fpq) (h.fpu b), fun b hb' => ?_⟩
  rcases hb' with hb' | hb'
  · exact .inl hb'
  · exact (at6 b hb').imp (h.fpu b) id
theorem rtrim_any {w : World} {p : Nat} {s : TSt} {F : Nat → Prop} (o : Bool) (k : Nat) (h : Rt w p s F) (hg : s.good) (hr : rdyN s (sdI o) = 0) (hk : k ≤ (s.now.get o).length) (hl : s.us.length ≤ 1000000) :
    Calls Try.prog 27 #[.pointer (some ⟨p, 0, none⟩), .int .i64 (sdI o), .int .i64 (k : Int)] w (Did (fun w' => Rt w' p (s.did [⟨o, some k, 0⟩])) F (.returned (.int .i64 0)) w) := by
  have HR := rready_any (sdI o) h
  rw [hr] at HR
  have HC := Lib.hid (rnow_any o h hg hl)
  have HRR := Lib.hid HR
  have HT := Lib.hid h
  have HG := Lib.hid hg
  have hz := hg.now o
  have h0 : decide ((k : Int) < 0) = false := by simp
  have h1 : decide (((s.now.get o).length : Int) < (k : Int)) = false := by simp; omega
  clear HR h hg hr
  cases o
  · simp only [sdI] at *
    go_enter Try.func27, Try.ntmps27
    go_wp2_with fail
    refine HRR.out.mono ?_
    rintro e w' ⟨rfl, rfl⟩
    go_wp2_with fail
    refine HC.out.mono ?_
    rintro e w2 ⟨A2, c2, rfl, _, _, hb2⟩
    have HT2 := Lib.hid (HT.out.below hb2)
    have HB2 := Lib.hid hb2
    clear hb2 HC HRR
    go_wp2_with fail
    refine (rburn_any HT2.out HG.out).mono ?_
    rintro e w3 ⟨rfl, hk3, g, r0, r1, uv, L, h3, hL⟩
    obtain ⟨AU, cU, hu, _, _⟩ := h3.us.slice
    subst hu
    have H3 := Lib.hid h3
    have HK3 := Lib.hid hk3
    have HL := Lib.hid hL
    have HRN : Hid (Rd (w3.alloc (.cells #[.int .i64 0, .int .i64 (k : Int), .int .u8 0] 67)) (some ⟨w3.heap.size, 0, none⟩) (ucells [⟨false, some k, 0⟩])) := Rd.of_blk (cs := ucells [⟨false, some k, 0⟩]) (Blk.new w3 67 _) 0
    have x1 : w3.cell? ⟨p, 1, none⟩ = some (.slice AU s.us.length cU) := h3.ptr.cell 1
    clear h3 hk3 hL HT2 HG
    go_wp2_with (at_builtin; obtain ⟨v5, w5, hrun5, own5, grow5, at5⟩ := g_app runE 57 (H3.out.us.keep fun b hb => Below.heap_alloc w3 (.cells #[.int .i64 0, .int .i64 (k : Int), .int .u8 0] 67) b (H3.out.us.lt hb)) (A := some ⟨w3.heap.size, 0, none⟩) (news := ucells [⟨false, some k, 0⟩]) 1 1 HRN.out rfl (ucells_one _) (by omega) (by unfold maxLen; omega); obtain ⟨A5, c5, rfl, _, _⟩ := own5.slice; have hp5 : Blk w5 p 59 _ := (H3.out.ptr.alloc _).grown grow5 (fun e => H3.out.dq.1 e.symm); have y1 : w5.cell? ⟨p, 1, none⟩ = some (.slice AU s.us.length cU) := hp5.cell 1; have f1 := hp5.frozen 1; refine wpl_append rfl (.tmp 30) (.tmp 34) 57 57 rfl _ _ rfl rfl hrun5 ?_; clear hrun5 hp5)
    have HPU := H3.out.pushed ((Below.refl _ _).alloc (Nat.le_refl _) _) grow5 (us' := s.us ++ [⟨false, some k, 0⟩]) (by rw [ucells_append]; exact own5) (by rw [List.length_append]; rfl) at5
    obtain ⟨t6, k6, g6⟩ := HPU
    have HFIN : Hid (Did (fun w' => Rt w' p (s.did [⟨false, some k, 0⟩])) F (.returned (.int .i64 0)) w (.returned (.int .i64 0)) (w5.setCell ⟨p, 1, none⟩ (.slice A5 (s.us.length + 1) c5))) := by
      have hk0 : Kept F w w3 := (Kept.of_below F HB2.out).trans (Grew.refl _ _) (HK3.out.mono fun b e => e ▸ H3.out.fpq)
      exact ⟨rfl, _, ⟨_, _, _, _, _, t6, HL.out⟩, hk0.trans (Grew.refl _ _) k6, fun b hb => (g6 b hb).imp id fun e => Nat.le_trans hk0.size e⟩
    clear own5 grow5 at5 t6 k6 g6 H3 HK3 HL HRN x1
    go_wp2_with fail
    go_ret
    exact HFIN.out
  · simp only [sdI] at *
    go_enter Try.func27, Try.ntmps27
    go_wp2_with fail
    refine HRR.out.mono ?_
    rintro e w' ⟨rfl, rfl⟩
    go_wp2_with fail
    refine HC.out.mono ?_
    rintro e w2 ⟨A2, c2, rfl, _, _, hb2⟩
    have HT2 := Lib.hid (HT.out.below hb2)
    have HB2 := Lib.hid hb2
    clear hb2 HC HRR
    go_wp2_with fail
    refine (rburn_any HT2.out HG.out).mono ?_
    rintro e w3 ⟨rfl, hk3, g, r0, r1, uv, L, h3, hL⟩
    obtain ⟨AU, cU, hu, _, _⟩ := h3.us.slice
    subst hu
    have H3 := Lib.hid h3
    have HK3 := Lib.hid hk3
    have HL := Lib.hid hL
    have HRN : Hid (Rd (w3.alloc (.cells #[.int .i64 1, .int .i64 (k : Int), .int .u8 0] 67)) (some ⟨w3.heap.size, 0, none⟩) (ucells [⟨true, some k, 0⟩])) := Rd.of_blk (cs := ucells [⟨true, some k, 0⟩]) (Blk.new w3 67 _) 0
    have x1 : w3.cell? ⟨p, 1, none⟩ = some (.slice AU s.us.length cU) := h3.ptr.cell 1
    clear h3 hk3 hL HT2 HG
    go_wp2_with (at_builtin; obtain ⟨v5, w5, hrun5, own5, grow5, at5⟩ := g_app runE 57 (H3.out.us.keep fun b hb => Below.heap_alloc w3 (.cells #[.int .i64 1, .int .i64 (k : Int), .int .u8 0] 67) b (H3.out.us.lt hb)) (A := some ⟨w3.heap.size, 0, none⟩) (news := ucells [⟨true, some k, 0⟩]) 1 1 HRN.out rfl (ucells_one _) (by omega) (by unfold maxLen; omega); obtain ⟨A5, c5, rfl, _, _⟩ := own5.slice; have hp5 : Blk w5 p 59 _ := (H3.out.ptr.alloc _).grown grow5 (fun e => H3.out.dq.1 e.symm); have y1 : w5.cell? ⟨p, 1, none⟩ = some (.slice AU s.us.length cU) := hp5.cell 1; have f1 := hp5.frozen 1; refine wpl_append rfl (.tmp 30) (.tmp 34) 57 57 rfl _ _ rfl rfl hrun5 ?_; clear hrun5 hp5)
    have HPU := H3.out.pushed ((Below.refl _ _).alloc (Nat.le_refl _) _) grow5 (us' := s.us ++ [⟨true, some k, 0⟩]) (by rw [ucells_append]; exact own5) (by rw [List.length_append]; rfl) at5
    obtain ⟨t6, k6, g6⟩ := HPU
    have HFIN : Hid (Did (fun w' => Rt w' p (s.did [⟨true, some k, 0⟩])) F (.returned (.int .i64 0)) w (.returned (.int .i64 0)) (w5.setCell ⟨p, 1, none⟩ (.slice A5 (s.us.length + 1) c5))) := by
      have hk0 : Kept F w w3 := (Kept.of_below F HB2.out).trans (Grew.refl _ _) (HK3.out.mono fun b e => e ▸ H3.out.fpq)
      exact ⟨rfl, _, ⟨_, _, _, _, _, t6, HL.out⟩, hk0.trans (Grew.refl _ _) k6, fun b hb => (g6 b hb).imp id fun e => Nat.le_trans hk0.size e⟩
    clear own5 grow5 at5 t6 k6 g6 H3 HK3 HL HRN x1
    go_wp2_with fail
    go_ret
    exact HFIN.out
theorem rsync_rdy {w : World} {p : Nat} {s : TSt} {F : Nat → Prop} (h : Rt w p s F) (hr : rdyN s 0 ≠ 0) :
    Calls Try.prog 28 #[.pointer (some ⟨p, 0, none⟩)] w fun e w' => e = .returned (.int .i64 (rdyN s 0)) ∧ w = w' := by
  have HR := Lib.hid (rready_any 0 h)
  clear h
  have hne : (rdyN s 0 != 0) = true := by simpa using hr
  generalize rdyN s 0 = r at *
  go_enter Try.func28, Try.ntmps28
  go_wp2_with fail
  refine HR.out.mono ?_
  rintro e w' ⟨rfl, rfl⟩
  go_wp2
  go_ret
  exact ⟨rfl, rfl⟩
end Go.Proofs.Ytpcmfbdlfjlobaa
