/- done: a byte more at a side's end. -/
import Derived.Test.YtpcmfbdlfjlobaaT2
namespace Go.Proofs.Ytpcmfbdlfjlobaa
open Go.RowKit
set_option linter.unusedVariables false
attribute [local go_sem ↓] Go.wp_at_zero Go.wp_at_succ
theorem below_at {Q : Nat} {w w' : World} (h : Below Q w w') (e : w.heap.size = Q) : Below w.heap.size w w' := by rw [e]; exact h
set_option maxRecDepth 100000 in
set_option maxHeartbeats 4000000 in
theorem done_add (o : Bool) (b : UInt8) (v0 v1 : Value) (s : Sd) (w : World) (h : Pr w v0 v1 s) (hs : s.ok) :
    Calls Try.prog 36 #[.agg #[v0, v1], .agg (Un.cells ⟨o, none, b⟩).toArray] w (Doned v0 v1 (stepS s ⟨o, none, b⟩) w) := by
  have hs0 := hs.1
  have hs1 := hs.2
  have H := Lib.hid h
  cases o
  · obtain ⟨A1, c1, rfl, hl1, hm1⟩ := h.o1.slice
    rw [show (Un.cells ⟨false, none, b⟩).toArray = #[.int .i64 0, .int .i64 (-1), .int .u8 (b.toNat : Int)] from rfl]
    have hL : Hid ((stepS s ⟨false, none, b⟩) = ⟨s.a ++ [b], s.b⟩) := rfl
    rw [hL.out]
    clear h hs hL
    have HP := Lib.hid (show w.heap.size = w.heap.size from rfl)
    generalize hn0 : s.a.length = m0 at *
    generalize hn1 : s.b.length = m1 at *
    have HN0 := Lib.hid hn0
    have HN1 := Lib.hid hn1
    clear hn0 hn1
    go_enter Try.func36, Try.ntmps36
    go_wp2_with fail
    generalize hQ : w.heap.size = Q at *
    have HQ := Lib.hid hQ
    have HW : Hid (Below Q w (((w.alloc (.cells #[v0, (.slice A1 m1 c1)] 52)).alloc (.cells #[.int .i64 0, .int .i64 (-1), .int .u8 (b.toNat : Int)] 61)).alloc (.cells #[.slice none 0 0, .slice none 0 0] 52))) := by
      rw [← HQ.out]
      exact (((Below.refl _ _).alloc (Nat.le_refl _) _).alloc (by simp) _).alloc (by simp; omega) _
    have HZ : Hid (((((w.alloc (.cells #[v0, (.slice A1 m1 c1)] 52)).alloc (.cells #[.int .i64 0, .int .i64 (-1), .int .u8 (b.toNat : Int)] 61)).alloc (.cells #[.slice none 0 0, .slice none 0 0] 52))).heap.size = Q + 1 + 1 + 1) := by unfold Hid; simp [hQ]
    have HB0 : Hid (Blk (((w.alloc (.cells #[v0, (.slice A1 m1 c1)] 52)).alloc (.cells #[.int .i64 0, .int .i64 (-1), .int .u8 (b.toNat : Int)] 61)).alloc (.cells #[.slice none 0 0, .slice none 0 0] 52)) Q 52 [v0, (.slice A1 m1 c1)]) := by
      rw [← HQ.out]
      exact ((Blk.new w 52 [v0, (.slice A1 m1 c1)]).alloc _).alloc _
    have HB1 : Hid (Blk (((w.alloc (.cells #[v0, (.slice A1 m1 c1)] 52)).alloc (.cells #[.int .i64 0, .int .i64 (-1), .int .u8 (b.toNat : Int)] 61)).alloc (.cells #[.slice none 0 0, .slice none 0 0] 52)) (Q + 1) 61 [.int .i64 0, .int .i64 (-1), .int .u8 (b.toNat : Int)]) := by
      rw [← HQ.out]
      exact (Blk.new2 w (.cells #[v0, (.slice A1 m1 c1)] 52) [.int .i64 0, .int .i64 (-1), .int .u8 (b.toNat : Int)] 61).alloc _
    have HB2 : Hid (Blk (((w.alloc (.cells #[v0, (.slice A1 m1 c1)] 52)).alloc (.cells #[.int .i64 0, .int .i64 (-1), .int .u8 (b.toNat : Int)] 61)).alloc (.cells #[.slice none 0 0, .slice none 0 0] 52)) (Q + 1 + 1) 52 [.slice none 0 0, .slice none 0 0]) := by
      have := Blk.new2 (w.alloc (.cells #[v0, (.slice A1 m1 c1)] 52)) (.cells #[.int .i64 0, .int .i64 (-1), .int .u8 (b.toNat : Int)] 61) [.slice none 0 0, .slice none 0 0] 52
      rw [show (w.alloc (.cells #[v0, (.slice A1 m1 c1)] 52)).heap.size = Q + 1 by simp [hQ]] at this
      exact this
    clear hQ
    generalize hW : (((w.alloc (.cells #[v0, (.slice A1 m1 c1)] 52)).alloc (.cells #[.int .i64 0, .int .i64 (-1), .int .u8 (b.toNat : Int)] 61)).alloc (.cells #[.slice none 0 0, .slice none 0 0] 52)) = W at *
    clear hW
    have HH := Lib.hid (H.out.below (below_at HW.out HQ.out))
    have x0 := HB0.out.cell 0
    have x1 := HB0.out.cell 1
    have y0 := HB1.out.cell 0
    have y2 := HB1.out.cell 2
    have ax : ∀ o, (W.alloc o).cell? ⟨Q, 0, none⟩ = some v0 := fun o => (HB0.out.alloc o).cell 0
    have ay0 : ∀ o, (W.alloc o).cell? ⟨Q + 1, 0, none⟩ = some (.int .i64 0) := fun o => (HB1.out.alloc o).cell 0
    have ay2 : ∀ o, (W.alloc o).cell? ⟨Q + 1, 2, none⟩ = some (.int .u8 (b.toNat : Int)) := fun o => (HB1.out.alloc o).cell 2
    have HRN : Hid (Rd ((W.alloc (.cells #[.int .u8 (b.toNat : Int)] 5)).drew) (some ⟨W.heap.size, 0, none⟩) (bvals [b])) := (Rd.of_blk (cs := bvals [b]) (Blk.new W 5 (bvals [b])) 0).drew
    have HO : Hid (GOwn ((W.alloc (.cells #[.int .u8 (b.toNat : Int)] 5)).drew) 5 1 v0 m0 (bvals s.a)) := by
      have := HH.out.o0
      rw [HN0.out] at this
      exact this.keep fun g hg => Below.heap_alloc W _ g (this.lt hg)
    have hvz : Hid (∀ g, v0.ownBlock = some g → g < Q) := fun g hg => by have := H.out.o0.lt hg; have := HQ.out; omega
    have hoz : Hid (∀ g, (Value.slice A1 m1 c1).ownBlock = some g → g < Q) := fun g hg => by have := H.out.o1.lt hg; have := HQ.out; omega
    have HNE : Hid (∀ k, Q ≤ k → some k ≠ v0.ownBlock) := fun k hk e => by have := hvz.out k e.symm; omega
    go_region_law ((obtain ⟨v5, w5, hrun5, own5, grow5, at5⟩ := g_app (w := (W.alloc (.cells #[.int .u8 (b.toNat : Int)] 5)).drew) byteE 28 HO.out (A := some ⟨W.heap.size, 0, none⟩) (news := bvals [b]) 1 1 HRN.out rfl (bvals_one _) (by omega) (by unfold maxLen; omega); obtain ⟨A5, c5, rfl, _, _⟩ := own5.slice; have hb0 : Blk w5 Q 52 [v0, (.slice A1 m1 c1)] := (HB0.out.alloc _).drew.grown grow5 (HNE.out Q (by omega)); have hb1 : Blk w5 (Q + 1) 61 [.int .i64 0, .int .i64 (-1), .int .u8 (b.toNat : Int)] := (HB1.out.alloc _).drew.grown grow5 (HNE.out (Q + 1) (by omega)); have hb2 : Blk w5 (Q + 1 + 1) 52 [.slice none 0 0, .slice none 0 0] := (HB2.out.alloc _).drew.grown grow5 (HNE.out (Q + 1 + 1) (by omega)); have z00 := hb0.cell 0; have z01 := hb0.cell 1; have z10 := hb1.cell 0; have z12 := hb1.cell 2; have z20 : w5.cell? ⟨Q + 1 + 1, 0, none⟩ = some (.slice none 0 0) := hb2.cell 0; have z21 : w5.cell? ⟨Q + 1 + 1, 1, none⟩ = some (.slice none 0 0) := hb2.cell 1; have g00 := hb0.frozen 0; have g20 := hb2.frozen 0; have g21 := hb2.frozen 1; refine step_append (by rfl) (.tmp 24) (.tmp 27) 28 28 (by rfl) _ _ (by rfl) (by rfl) hrun5 ?_; clear hrun5))
    all_goals
      have HFIN : Hid (∀ w', Kept (fun k => k = Q ∨ k = Q + 1 + 1) w5 w' → Doned v0 (.slice A1 m1 c1) ⟨s.a ++ [b], s.b⟩ w (.returned (.agg #[(.slice A5 (m0 + 1) c5), (.slice A1 m1 c1)])) w') := fun w' hw => by
        have hz := HZ.out
        have hgz := grow5.size
        simp at hgz
        have hblk : ∀ k, k < Q → some k ≠ v0.ownBlock → w'.heap[k]? = w.heap[k]? := fun k hk hne => by
          refine (hw.block (by omega) (fun e => by omega)).trans ((grow5.block k (by simp; omega) hne).trans ?_)
          exact (Below.heap_alloc W _ k (by omega)).trans (HW.out.block k hk)
        have hv : ∀ k, (Value.slice A5 (m0 + 1) c5).ownBlock = some k → v0.ownBlock = some k ∨ Q + 1 + 1 < k := fun k hk => by
          rcases at5 k hk with e | e
          · exact .inl e
          · simp at e; exact .inr (by omega)
        have own6 : GOwn w' 5 1 (.slice A5 (m0 + 1) c5) (s.a ++ [b]).length (bvals (s.a ++ [b])) := by
          rw [bvals_append, List.length_append, HN0.out]
          refine own5.keep fun k hk => hw.block (own5.lt hk) (fun e => ?_)
          rcases hv k hk with h1 | h1
          · have := hvz.out k h1; omega
          · omega
        have own7 := H.out.o1.keep (w' := w') fun k hk => hblk k (hoz.out k hk) (fun e => H.out.ap k e.symm hk)
        refine ⟨_, _, rfl, ⟨own6, own7, fun k h0 h1 => ?_⟩, ?_, fun k hk => ?_⟩
        · rcases hv k h0 with e | e
          · exact H.out.ap k e h1
          · have := hoz.out k h1; omega
        · have hK5 : Kept (blk v0 (.slice A1 m1 c1)) w w5 := ((Kept.of_below _ (below_at HW.out HQ.out)).alloc _).drew.grown grow5 (fun k hk => .inl (.inl hk))
          exact hK5.trans (fun k hk => .inr (by have := HQ.out; omega)) hw
        · rcases hk with hk | hk
          · rcases hv k hk with e | e
            · exact .inl (.inl e)
            · exact .inr (by have := HQ.out; omega)
          · exact .inl (.inr hk)
      clear own5 grow5 at5 hb0 hb1 hb2 HB0 HB1 HB2 HW HZ HO HRN HH H HN0 HN1 hvz hoz HNE
      go_wp2
      exact bodyPost_ret (v := .agg #[(.slice A5 (m0 + 1) c5), (.slice A1 m1 c1)]) (by simp [results, Try.results36, go_sem, z20, z21]) rfl (HFIN.out _ (by repeat (first | exact Kept.refl _ _ | refine Kept.set ?_ (by simp) _)))
  · obtain ⟨A0, c0, rfl, hl0, hm0⟩ := h.o0.slice
    rw [show (Un.cells ⟨true, none, b⟩).toArray = #[.int .i64 1, .int .i64 (-1), .int .u8 (b.toNat : Int)] from rfl]
    have hL : Hid ((stepS s ⟨true, none, b⟩) = ⟨s.a, s.b ++ [b]⟩) := rfl
    rw [hL.out]
    clear h hs hL
    have HP := Lib.hid (show w.heap.size = w.heap.size from rfl)
    generalize hn0 : s.a.length = m0 at *
    generalize hn1 : s.b.length = m1 at *
    have HN0 := Lib.hid hn0
    have HN1 := Lib.hid hn1
    clear hn0 hn1
    go_enter Try.func36, Try.ntmps36
    go_wp2_with fail
    generalize hQ : w.heap.size = Q at *
    have HQ := Lib.hid hQ
    have HW : Hid (Below Q w (((w.alloc (.cells #[(.slice A0 m0 c0), v1] 52)).alloc (.cells #[.int .i64 1, .int .i64 (-1), .int .u8 (b.toNat : Int)] 61)).alloc (.cells #[.slice none 0 0, .slice none 0 0] 52))) := by
      rw [← HQ.out]
      exact (((Below.refl _ _).alloc (Nat.le_refl _) _).alloc (by simp) _).alloc (by simp; omega) _
    have HZ : Hid (((((w.alloc (.cells #[(.slice A0 m0 c0), v1] 52)).alloc (.cells #[.int .i64 1, .int .i64 (-1), .int .u8 (b.toNat : Int)] 61)).alloc (.cells #[.slice none 0 0, .slice none 0 0] 52))).heap.size = Q + 1 + 1 + 1) := by unfold Hid; simp [hQ]
    have HB0 : Hid (Blk (((w.alloc (.cells #[(.slice A0 m0 c0), v1] 52)).alloc (.cells #[.int .i64 1, .int .i64 (-1), .int .u8 (b.toNat : Int)] 61)).alloc (.cells #[.slice none 0 0, .slice none 0 0] 52)) Q 52 [(.slice A0 m0 c0), v1]) := by
      rw [← HQ.out]
      exact ((Blk.new w 52 [(.slice A0 m0 c0), v1]).alloc _).alloc _
    have HB1 : Hid (Blk (((w.alloc (.cells #[(.slice A0 m0 c0), v1] 52)).alloc (.cells #[.int .i64 1, .int .i64 (-1), .int .u8 (b.toNat : Int)] 61)).alloc (.cells #[.slice none 0 0, .slice none 0 0] 52)) (Q + 1) 61 [.int .i64 1, .int .i64 (-1), .int .u8 (b.toNat : Int)]) := by
      rw [← HQ.out]
      exact (Blk.new2 w (.cells #[(.slice A0 m0 c0), v1] 52) [.int .i64 1, .int .i64 (-1), .int .u8 (b.toNat : Int)] 61).alloc _
    have HB2 : Hid (Blk (((w.alloc (.cells #[(.slice A0 m0 c0), v1] 52)).alloc (.cells #[.int .i64 1, .int .i64 (-1), .int .u8 (b.toNat : Int)] 61)).alloc (.cells #[.slice none 0 0, .slice none 0 0] 52)) (Q + 1 + 1) 52 [.slice none 0 0, .slice none 0 0]) := by
      have := Blk.new2 (w.alloc (.cells #[(.slice A0 m0 c0), v1] 52)) (.cells #[.int .i64 1, .int .i64 (-1), .int .u8 (b.toNat : Int)] 61) [.slice none 0 0, .slice none 0 0] 52
      rw [show (w.alloc (.cells #[(.slice A0 m0 c0), v1] 52)).heap.size = Q + 1 by simp [hQ]] at this
      exact this
    clear hQ
    generalize hW : (((w.alloc (.cells #[(.slice A0 m0 c0), v1] 52)).alloc (.cells #[.int .i64 1, .int .i64 (-1), .int .u8 (b.toNat : Int)] 61)).alloc (.cells #[.slice none 0 0, .slice none 0 0] 52)) = W at *
    clear hW
    have HH := Lib.hid (H.out.below (below_at HW.out HQ.out))
    have x0 := HB0.out.cell 0
    have x1 := HB0.out.cell 1
    have y0 := HB1.out.cell 0
    have y2 := HB1.out.cell 2
    have ax : ∀ o, (W.alloc o).cell? ⟨Q, 1, none⟩ = some v1 := fun o => (HB0.out.alloc o).cell 1
    have ay0 : ∀ o, (W.alloc o).cell? ⟨Q + 1, 0, none⟩ = some (.int .i64 1) := fun o => (HB1.out.alloc o).cell 0
    have ay2 : ∀ o, (W.alloc o).cell? ⟨Q + 1, 2, none⟩ = some (.int .u8 (b.toNat : Int)) := fun o => (HB1.out.alloc o).cell 2
    have HRN : Hid (Rd ((W.alloc (.cells #[.int .u8 (b.toNat : Int)] 5)).drew) (some ⟨W.heap.size, 0, none⟩) (bvals [b])) := (Rd.of_blk (cs := bvals [b]) (Blk.new W 5 (bvals [b])) 0).drew
    have HO : Hid (GOwn ((W.alloc (.cells #[.int .u8 (b.toNat : Int)] 5)).drew) 5 1 v1 m1 (bvals s.b)) := by
      have := HH.out.o1
      rw [HN1.out] at this
      exact this.keep fun g hg => Below.heap_alloc W _ g (this.lt hg)
    have hvz : Hid (∀ g, v1.ownBlock = some g → g < Q) := fun g hg => by have := H.out.o1.lt hg; have := HQ.out; omega
    have hoz : Hid (∀ g, (Value.slice A0 m0 c0).ownBlock = some g → g < Q) := fun g hg => by have := H.out.o0.lt hg; have := HQ.out; omega
    have HNE : Hid (∀ k, Q ≤ k → some k ≠ v1.ownBlock) := fun k hk e => by have := hvz.out k e.symm; omega
    go_region_law ((obtain ⟨v5, w5, hrun5, own5, grow5, at5⟩ := g_app (w := (W.alloc (.cells #[.int .u8 (b.toNat : Int)] 5)).drew) byteE 28 HO.out (A := some ⟨W.heap.size, 0, none⟩) (news := bvals [b]) 1 1 HRN.out rfl (bvals_one _) (by omega) (by unfold maxLen; omega); obtain ⟨A5, c5, rfl, _, _⟩ := own5.slice; have hb0 : Blk w5 Q 52 [(.slice A0 m0 c0), v1] := (HB0.out.alloc _).drew.grown grow5 (HNE.out Q (by omega)); have hb1 : Blk w5 (Q + 1) 61 [.int .i64 1, .int .i64 (-1), .int .u8 (b.toNat : Int)] := (HB1.out.alloc _).drew.grown grow5 (HNE.out (Q + 1) (by omega)); have hb2 : Blk w5 (Q + 1 + 1) 52 [.slice none 0 0, .slice none 0 0] := (HB2.out.alloc _).drew.grown grow5 (HNE.out (Q + 1 + 1) (by omega)); have z00 := hb0.cell 0; have z01 := hb0.cell 1; have z10 := hb1.cell 0; have z12 := hb1.cell 2; have z20 : w5.cell? ⟨Q + 1 + 1, 0, none⟩ = some (.slice none 0 0) := hb2.cell 0; have z21 : w5.cell? ⟨Q + 1 + 1, 1, none⟩ = some (.slice none 0 0) := hb2.cell 1; have g00 := hb0.frozen 1; have g20 := hb2.frozen 0; have g21 := hb2.frozen 1; refine step_append (by rfl) (.tmp 24) (.tmp 27) 28 28 (by rfl) _ _ (by rfl) (by rfl) hrun5 ?_; clear hrun5))
    all_goals
      have HFIN : Hid (∀ w', Kept (fun k => k = Q ∨ k = Q + 1 + 1) w5 w' → Doned (.slice A0 m0 c0) v1 ⟨s.a, s.b ++ [b]⟩ w (.returned (.agg #[(.slice A0 m0 c0), (.slice A5 (m1 + 1) c5)])) w') := fun w' hw => by
        have hz := HZ.out
        have hgz := grow5.size
        simp at hgz
        have hblk : ∀ k, k < Q → some k ≠ v1.ownBlock → w'.heap[k]? = w.heap[k]? := fun k hk hne => by
          refine (hw.block (by omega) (fun e => by omega)).trans ((grow5.block k (by simp; omega) hne).trans ?_)
          exact (Below.heap_alloc W _ k (by omega)).trans (HW.out.block k hk)
        have hv : ∀ k, (Value.slice A5 (m1 + 1) c5).ownBlock = some k → v1.ownBlock = some k ∨ Q + 1 + 1 < k := fun k hk => by
          rcases at5 k hk with e | e
          · exact .inl e
          · simp at e; exact .inr (by omega)
        have own6 : GOwn w' 5 1 (.slice A5 (m1 + 1) c5) (s.b ++ [b]).length (bvals (s.b ++ [b])) := by
          rw [bvals_append, List.length_append, HN1.out]
          refine own5.keep fun k hk => hw.block (own5.lt hk) (fun e => ?_)
          rcases hv k hk with h1 | h1
          · have := hvz.out k h1; omega
          · omega
        have own7 := H.out.o0.keep (w' := w') fun k hk => hblk k (hoz.out k hk) (fun e => H.out.ap k hk e.symm)
        refine ⟨_, _, rfl, ⟨own7, own6, fun k h0 h1 => ?_⟩, ?_, fun k hk => ?_⟩
        · rcases hv k h1 with e | e
          · exact H.out.ap k h0 e
          · have := hoz.out k h0; omega
        · have hK5 : Kept (blk (.slice A0 m0 c0) v1) w w5 := ((Kept.of_below _ (below_at HW.out HQ.out)).alloc _).drew.grown grow5 (fun k hk => .inl (.inr hk))
          exact hK5.trans (fun k hk => .inr (by have := HQ.out; omega)) hw
        · rcases hk with hk | hk
          · exact .inl (.inl hk)
          · rcases hv k hk with e | e
            · exact .inl (.inr e)
            · exact .inr (by have := HQ.out; omega)
      clear own5 grow5 at5 hb0 hb1 hb2 HB0 HB1 HB2 HW HZ HO HRN HH H HN0 HN1 hvz hoz HNE
      go_wp2
      exact bodyPost_ret (v := .agg #[(.slice A0 m0 c0), (.slice A5 (m1 + 1) c5)]) (by simp [results, Try.results36, go_sem, z20, z21]) rfl (HFIN.out _ (by repeat (first | exact Kept.refl _ _ | refine Kept.set ?_ (by simp) _)))
end Go.Proofs.Ytpcmfbdlfjlobaa
