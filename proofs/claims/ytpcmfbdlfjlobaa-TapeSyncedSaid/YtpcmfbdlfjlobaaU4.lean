/- Sync and Crash of the reference. -/
import Derived.Test.YtpcmfbdlfjlobaaU3
namespace Go.Proofs.Ytpcmfbdlfjlobaa
open Go.RowKit
set_option linter.unusedVariables false
attribute [local go_sem ↓] Go.wp_at_zero Go.wp_at_succ
/-- New sides that last, at g, and no units. -/
theorem RtW.renewed {w w4 w6 : World} {q g : Nat} {sf sf' : Sd} {us : List Un} {bu : Bool} {L : Int} {F : Nat → Prop} {r0 r1 uv : Value} {A0 : Option Addr} {c0 : Nat} {A1 : Option Addr} {c1 : Nat} {bu' : Bool} {L' : Int} (h : RtW w q sf us bu L F g r0 r1 uv) (hb : Below w.heap.size w w4)
    (o0 : GOwn w4 5 1 (.slice A0 sf'.a.length c0) sf'.a.length (bvals sf'.a)) (o1 : GOwn w4 5 1 (.slice A1 sf'.b.length c1) sf'.b.length (bvals sf'.b)) (f0 : ∀ a, A0 = some a → w.heap.size ≤ a.block) (f1 : ∀ a, A1 = some a → w.heap.size ≤ a.block) (fd : ∀ a b, A0 = some a → A1 = some b → a.block < b.block)
    (hk : ∀ b, b ≠ q → w6.heap[b]? = (w4.alloc (.cells #[.slice A0 sf'.a.length c0, .slice A1 sf'.b.length c1] 28)).heap[b]?) (hp : Blk w6 q 59 [.slice (some ⟨w4.heap.size, 0, none⟩) 2 2, .slice none 0 0, .bool bu', .int .i64 L']) (hz : w4.heap.size < w6.heap.size) :
    RtW w6 q sf' [] bu' L' (fun b => F b ∨ b = w4.heap.size ∨ blk (.slice A0 sf'.a.length c0) (.slice A1 sf'.b.length c1) b) w4.heap.size (.slice A0 sf'.a.length c0) (.slice A1 sf'.b.length c1) (.slice none 0 0) := by
  have hqz := h.lt q h.fpq
  have hblk : ∀ (A : Option Addr) n c b, (Value.slice A n c).ownBlock = some b → ∃ a, A = some a ∧ a.block = b := fun A n c b hb' => by
    cases A with
    | none => simp [Value.ownBlock] at hb'
    | some a => exact ⟨a, rfl, by simpa [Value.ownBlock] using hb'⟩
  have ge : ∀ b, blk (.slice A0 sf'.a.length c0) (.slice A1 sf'.b.length c1) b → w.heap.size ≤ b := fun b hb' => by
    rcases hb' with hb' | hb'
    · obtain ⟨a, ha, rfl⟩ := hblk _ _ _ _ hb'; exact f0 a ha
    · obtain ⟨a, ha, rfl⟩ := hblk _ _ _ _ hb'; exact f1 a ha
  have lt4 : ∀ b, blk (.slice A0 sf'.a.length c0) (.slice A1 sf'.b.length c1) b → b < w4.heap.size := fun b hb' => hb'.elim (fun e => o0.lt e) (fun e => o1.lt e)
  have hpr : Pr w4 (.slice A0 sf'.a.length c0) (.slice A1 sf'.b.length c1) sf' := ⟨o0, o1, fun b h0 h1 => by
    obtain ⟨a, ha, rfl⟩ := hblk _ _ _ _ h0
    obtain ⟨a', ha', he⟩ := hblk _ _ _ _ h1
    have := fd a a' ha ha'
    omega⟩
  have hzz := hb.size
  refine h.fresh (by omega) hp ?_ (hpr.keep fun b hb' => (hk b (fun e => by have := ge b hb'; omega)).trans (Below.heap_alloc w4 _ b (lt4 b hb'))) ge hb.size (fun hb' => by have := lt4 _ hb'; omega)
  exact (hk _ (by omega)).trans (Blk.new w4 28 _)
theorem cl_blk {X : Option Addr} {w w' : World} (h : ∀ a, X = some a → w.heap.size ≤ a.block ∧ a.block < w'.heap.size) {B : Nat} (hB : B ≤ w.heap.size) : ∀ a, X = some a → B ≤ a.block := fun a ha => Nat.le_trans hB (h a ha).1
set_option maxRecDepth 100000 in
set_option maxHeartbeats 4000000 in
theorem rsync_any {w : World} {q : Nat} {s : TSt} {F : Nat → Prop} (h : Rt w q s F) (hg : s.good) (hr : rdyN s 0 = 0) (hl : s.us.length ≤ 1000000) :
    Calls Try.prog 28 #[.pointer (some ⟨q, 0, none⟩)] w (Did (fun w' => Rt w' q s.synced) F (.returned (.int .i64 0)) w) := by
  have HR := rready_any 0 h
  rw [hr] at HR
  have HRR := Lib.hid HR
  have HT := Lib.hid h
  have HG := Lib.hid hg
  have HGB := Lib.hid (hg.burnt hr)
  have HUL : Hid (s.burnt.us.length ≤ 1000000) := hl
  clear HR h hg hr
  go_enter Try.func28, Try.ntmps28
  go_wp2_with fail
  refine HRR.out.mono ?_
  rintro e w' ⟨rfl, rfl⟩
  go_wp2_with fail
  refine (rburn_any HT.out HG.out).mono ?_
  intro e w1 hbu
  obtain ⟨rfl, hk1, ht1⟩ := hbu.rt
  have HT1 := Lib.hid ht1
  have HK1 := Lib.hid hk1
  clear hbu hk1 ht1 HRR
  go_wp2_with fail
  refine (rnow_any false HT1.out HGB.out HUL.out).mono ?_
  rintro e w2 ⟨A2, c2, rfl, own2, hg2, hb2⟩
  have HT2 := Lib.hid (HT1.out.below hb2)
  have HO2 := Lib.hid own2
  have HA2 := Lib.hid hg2
  have HB2 := Lib.hid hb2
  clear own2 hg2 hb2
  go_wp2_with fail
  refine (rnow_any true HT2.out HGB.out HUL.out).mono ?_
  rintro e w3 ⟨A3, c3, rfl, own3, hg3, hb3⟩
  obtain ⟨g, r0, r1, uv, L, h1, hL⟩ := HT1.out
  obtain ⟨AU, cU, hu, _, _⟩ := h1.us.slice
  subst hu
  have hB13 : Below w1.heap.size w1 w3 := HB2.out.trans (hb3.mono HB2.out.size)
  have h3 := h1.below hB13
  have y0 : ∀ o, (w3.alloc o).cell? ⟨q, 0, none⟩ = some (.slice (some ⟨g, 0, none⟩) 2 2) := fun o => (h3.ptr.alloc o).cell 0
  have y1 : ∀ o, (w3.alloc o).cell? ⟨q, 1, none⟩ = some (.slice AU s.burnt.us.length cU) := fun o => (h3.ptr.alloc o).cell 1
  have f0 : ∀ o, (w3.alloc o).frozen? ⟨q, 0, none⟩ = false := fun o => (h3.ptr.alloc o).frozen 0
  have f1 : ∀ o, (w3.alloc o).frozen? ⟨q, 1, none⟩ = false := fun o => (h3.ptr.alloc o).frozen 1
  have HFIN : Hid (Did (fun w' => Rt w' q s.synced) F (.returned (.int .i64 0)) w (.returned (.int .i64 0)) (((w3.alloc (.cells #[.slice A2 (s.burnt.now.get false).length c2, .slice A3 (s.burnt.now.get true).length c3] 28)).setCell ⟨q, 0, none⟩ (.slice (some ⟨w3.heap.size, 0, none⟩) 2 2)).setCell ⟨q, 1, none⟩ (.slice none 0 0))) := by
    have hp6 := ((h3.ptr.alloc (.cells #[.slice A2 (s.burnt.now.get false).length c2, .slice A3 (s.burnt.now.get true).length c3] 28)).set_ 0 (.slice (some ⟨w3.heap.size, 0, none⟩) 2 2)).set_ 1 (.slice none 0 0)
    have hk6 : Kept F w1 (((w3.alloc (.cells #[.slice A2 (s.burnt.now.get false).length c2, .slice A3 (s.burnt.now.get true).length c3] 28)).setCell ⟨q, 0, none⟩ (.slice (some ⟨w3.heap.size, 0, none⟩) 2 2)).setCell ⟨q, 1, none⟩ (.slice none 0 0)) := (((Kept.of_below F hB13).alloc _).set (p := ⟨q, 0, none⟩) (.inl h1.fpq) _).set (p := ⟨q, 1, none⟩) (.inl h1.fpq) _
    have ht := h1.renewed (sf' := s.now) hB13 (HO2.out.keep fun b hb => hb3.block b (HO2.out.lt hb)) own3 (cl_blk HA2.out (Nat.le_refl _)) (cl_blk hg3 HB2.out.size) (fun a b ha hb => by have e1 := (HA2.out a ha).2; have e2 := (hg3 b hb).1; omega) (fun b hb => (Below.heap_setCell _ _ _ b (by simpa using hb)).trans (Below.heap_setCell _ _ _ b (by simpa using hb))) hp6 (by simp)
    have hk0 : Kept F w w1 := HK1.out.mono fun b e => e ▸ h1.fpq
    refine ⟨rfl, _, ⟨_, _, _, _, _, ht, hL⟩, hk0.trans (Grew.refl _ _) hk6, fun b hb => ?_⟩
    rcases hb with hb | hb | hb
    · exact .inl hb
    · subst hb; exact .inr (Nat.le_trans hk0.size hB13.size)
    · refine .inr (Nat.le_trans hk0.size ?_)
      rcases hb with hb | hb
      · cases A2 with
        | none => simp [Value.ownBlock] at hb
        | some a => have := (HA2.out a rfl).1; have e : a.block = b := by simpa [Value.ownBlock] using hb
                    omega
      · cases A3 with
        | none => simp [Value.ownBlock] at hb
        | some a => have := (hg3 a rfl).1; have e : a.block = b := by simpa [Value.ownBlock] using hb
                    have := HB2.out.size
                    omega
  clear h1 h3 hL own3 hg3 hb3 hB13 HT1 HT2 HO2 HA2 HB2
  go_wp2_with fail
  go_ret
  exact HFIN.out
set_option maxRecDepth 100000 in
set_option maxHeartbeats 8000000 in
theorem rcrash_any {w : World} {q : Nat} {s : TSt} {F : Nat → Prop} (n : Int) (h : Rt w q s F) (hg : s.good) (h0 : -9223372036854775808 ≤ n) (h1 : n ≤ 9223372036854775807) (hl : s.us.length ≤ 1000000) :
    Calls Try.prog 30 #[.pointer (some ⟨q, 0, none⟩), .int .i64 n] w (Did (fun w' => Rt w' q (s.crashed (pickF n (s.us.length + 1)))) F (.returned (.tuple #[])) w) := by
  have HT := Lib.hid h
  have HG := Lib.hid hg
  have HUL : Hid (s.us.length ≤ 1000000) := hl
  obtain ⟨g, r0, r1, uv, L, h, hL⟩ := h
  obtain ⟨AU, cU, hu, _, _⟩ := h.us.slice
  subst hu
  have HH := Lib.hid h
  have x1 : w.cell? ⟨q, 1, none⟩ = some (.slice AU s.us.length cU) := h.ptr.cell 1
  have HKL : Hid (pickF n (s.us.length + 1) < s.us.length + 1) := pick_lt _ _ (by omega)
  have hkk : (decide (n < 0) = true ∧ IntKind.i64.wrap (n + 1) = n + 1 ∧ IntKind.i64.wrap (-(n + 1)) = -(n + 1) ∧ -(n + 1).tmod ((s.us.length : Int) + 1) = (pickF n (s.us.length + 1) : Int)) ∨ (decide (n < 0) = false ∧ True ∧ True ∧ n.tmod ((s.us.length : Int) + 1) = (pickF n (s.us.length + 1) : Int)) := by
    by_cases hn : n < 0
    · refine .inl ⟨by simpa using hn, IntWalk.i64_in _ (by omega), IntWalk.i64_in _ (by omega), ?_⟩
      unfold pickF
      rw [if_pos hn, ← Int.neg_tmod, Int.tmod_eq_emod_of_nonneg (by omega)]
      have := Int.emod_nonneg (-(n + 1)) (show ((s.us.length : Int) + 1) ≠ 0 by omega)
      rw [show (((s.us.length + 1 : Nat) : Int)) = (s.us.length : Int) + 1 by omega]
      omega
    · refine .inr ⟨by simpa using hn, trivial, trivial, ?_⟩
      unfold pickF
      rw [if_neg hn, Int.tmod_eq_emod_of_nonneg (by omega)]
      have := Int.emod_nonneg n (show ((s.us.length : Int) + 1) ≠ 0 by omega)
      rw [show (((s.us.length + 1 : Nat) : Int)) = (s.us.length : Int) + 1 by omega]
      omega
  have hK0 : (0 : Int) ≤ (pickF n (s.us.length + 1) : Int) := by omega
  have hw1 : IntKind.i64.wrap ((s.us.length : Int) + 1) = (s.us.length : Int) + 1 := IntWalk.i64_in _ (by omega)
  have hz : ((s.us.length : Int) + 1) ≠ 0 := by omega
  clear h hL hg
  generalize pickF n (s.us.length + 1) = K at *
  rcases hkk with ⟨hd, hw2, hw3, hk⟩ | ⟨hd, hw2, hw3, hk⟩
  all_goals
    go_enter Try.func30, Try.ntmps30
    go_wp2_with fail
    refine (rdone_any false K HT.out HG.out (by have := HKL.out; omega) HUL.out).mono ?_
    rintro e w2 ⟨A2, c2, rfl, own2, hg2, hb2⟩
    have HT2 := Lib.hid (HT.out.below hb2)
    have HO2 := Lib.hid own2
    have HA2 := Lib.hid hg2
    have HB2 := Lib.hid hb2
    clear own2 hg2 hb2 x1
    go_wp2_with fail
    refine (rdone_any true K HT2.out HG.out (by have := HKL.out; omega) HUL.out).mono ?_
    rintro e w3 ⟨A3, c3, rfl, own3, hg3, hb3⟩
    have hB13 : Below w.heap.size w w3 := HB2.out.trans (hb3.mono HB2.out.size)
    have h3 := HH.out.below hB13
    have y0 : ∀ o, (w3.alloc o).cell? ⟨q, 0, none⟩ = some (.slice (some ⟨g, 0, none⟩) 2 2) := fun o => (h3.ptr.alloc o).cell 0
    have y1 : ∀ o, (w3.alloc o).cell? ⟨q, 1, none⟩ = some (.slice AU s.us.length cU) := fun o => (h3.ptr.alloc o).cell 1
    have y2 : ∀ o, (w3.alloc o).cell? ⟨q, 2, none⟩ = some (.bool s.burns) := fun o => (h3.ptr.alloc o).cell 2
    have y3 : ∀ o, (w3.alloc o).cell? ⟨q, 3, none⟩ = some (.int .i64 L) := fun o => (h3.ptr.alloc o).cell 3
    have f0 : ∀ o, (w3.alloc o).frozen? ⟨q, 0, none⟩ = false := fun o => (h3.ptr.alloc o).frozen 0
    have f1 : ∀ o, (w3.alloc o).frozen? ⟨q, 1, none⟩ = false := fun o => (h3.ptr.alloc o).frozen 1
    have f2 : ∀ o, (w3.alloc o).frozen? ⟨q, 2, none⟩ = false := fun o => (h3.ptr.alloc o).frozen 2
    have f3 : ∀ o, (w3.alloc o).frozen? ⟨q, 3, none⟩ = false := fun o => (h3.ptr.alloc o).frozen 3
    have HFIN : Hid (Did (fun w' => Rt w' q (s.crashed K)) F (.returned (.tuple #[])) w (.returned (.tuple #[])) (((((w3.alloc (.cells #[.slice A2 ((runS s.safe (s.us.take K)).get false).length c2, .slice A3 ((runS s.safe (s.us.take K)).get true).length c3] 28)).setCell ⟨q, 0, none⟩ (.slice (some ⟨w3.heap.size, 0, none⟩) 2 2)).setCell ⟨q, 1, none⟩ (.slice none 0 0)).setCell ⟨q, 2, none⟩ (.bool false)).setCell ⟨q, 3, none⟩ (.int .i64 0))) := by
      have hp6 := ((((h3.ptr.alloc (.cells #[.slice A2 ((runS s.safe (s.us.take K)).get false).length c2, .slice A3 ((runS s.safe (s.us.take K)).get true).length c3] 28)).set_ 0 (.slice (some ⟨w3.heap.size, 0, none⟩) 2 2)).set_ 1 (.slice none 0 0)).set_ 2 (.bool false)).set_ 3 (.int .i64 0)
      have hk6 : Kept F w (((((w3.alloc (.cells #[.slice A2 ((runS s.safe (s.us.take K)).get false).length c2, .slice A3 ((runS s.safe (s.us.take K)).get true).length c3] 28)).setCell ⟨q, 0, none⟩ (.slice (some ⟨w3.heap.size, 0, none⟩) 2 2)).setCell ⟨q, 1, none⟩ (.slice none 0 0)).setCell ⟨q, 2, none⟩ (.bool false)).setCell ⟨q, 3, none⟩ (.int .i64 0)) := (((((Kept.of_below F hB13).alloc _).set (p := ⟨q, 0, none⟩) (.inl HH.out.fpq) _).set (p := ⟨q, 1, none⟩) (.inl HH.out.fpq) _).set (p := ⟨q, 2, none⟩) (.inl HH.out.fpq) _).set (p := ⟨q, 3, none⟩) (.inl HH.out.fpq) _
      have ht := HH.out.renewed (sf' := runS s.safe (s.us.take K)) hB13 (HO2.out.keep fun b hb => hb3.block b (HO2.out.lt hb)) own3 (cl_blk HA2.out (Nat.le_refl _)) (cl_blk hg3 HB2.out.size) (fun a b ha hb => by have e1 := (HA2.out a ha).2; have e2 := (hg3 b hb).1; omega) (fun b hb => (Below.heap_setCell _ _ _ b (by simpa using hb)).trans ((Below.heap_setCell _ _ _ b (by simpa using hb)).trans ((Below.heap_setCell _ _ _ b (by simpa using hb)).trans (Below.heap_setCell _ _ _ b (by simpa using hb))))) hp6 (by simp)
      refine ⟨rfl, _, ⟨_, _, _, _, _, ht, fun e => by cases e⟩, hk6, fun b hb => ?_⟩
      rcases hb with hb | hb | hb
      · exact .inl hb
      · subst hb; exact .inr hB13.size
      · refine .inr ?_
        rcases hb with hb | hb
        · cases A2 with
          | none => simp [Value.ownBlock] at hb
          | some a => have := (HA2.out a rfl).1; have e : a.block = b := by simpa [Value.ownBlock] using hb
                      omega
        · cases A3 with
          | none => simp [Value.ownBlock] at hb
          | some a => have := (hg3 a rfl).1; have e : a.block = b := by simpa [Value.ownBlock] using hb
                      have := HB2.out.size
                      omega
    clear h3 own3 hg3 hb3 hB13 HT HT2 HO2 HA2 HB2 HH hw1 hw2 hw3 hk hd
    go_wp2_with fail
    go_end0
    exact HFIN.out
end Go.Proofs.Ytpcmfbdlfjlobaa
