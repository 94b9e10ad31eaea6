/- Contract of the reference's Pass. -/
import Derived.Test.YtpljopocnlllcaaR3
import Derived.Test.YtpljopocnlllcaaTKg
namespace Go.Proofs.Ytpljopocnlllcaa
open Go.RowKit
attribute [local go_sem ↓] Go.wp_at_zero Go.wp_at_succ
theorem radd_same (a b : Int) (w : World) : Calls Try.prog 36 #[.int .i64 a, .int .i64 b] w fun e w' => e = .returned (.int .i64 (addF a b)) ∧ w' = w := (radd_any a b w).mono fun _ _ ⟨h1, h2⟩ => ⟨h1, h2.symm⟩
set_option maxRecDepth 100000 in
set_option maxHeartbeats 8000000 in
theorem rpass_any {w : World} {p : Nat} {s : St} {F : Nat → Prop} (n : Int) (A : Option Addr) (c : Nat) (sk : List Int) (h : Rep 54 57 w p s F) (hg : s.good) (hr : Rd w A (ivals sk)) (hA : ∀ a, A = some a → sk ≠ [] → ¬ F a.block) (hs : sk.length ≤ maxLen) :
    Calls Try.prog 23 #[.pointer (some ⟨p, 0, none⟩), .int .i64 n, .slice A sk.length c] w (Passed 54 57 p s n sk F w) := by
  obtain ⟨cv, kv, qs, h⟩ := h
  obtain ⟨gc, off, cap, hcv, hnc, hcm, hgl⟩ := h.clk.form (by have := hg.n0; omega)
  subst hcv
  have H := Lib.hid h
  have hn1 := hg.n1
  have ht0 := hg.t0
  have ht1 := hg.t1
  have h0 : w.cell? ⟨p, 0, none⟩ = some (.int .i64 s.time) := h.ptr.cell 0
  have f0 := h.ptr.frozen 0
  have h1 : ∀ u, (w.setCell ⟨p, 0, none⟩ u).cell? ⟨p, 1, none⟩ = some (.slice (some ⟨gc, off, none⟩) s.clocks.length cap) := fun u => (h.ptr.set_ 0 u).cell 1
  have hT0 : timeTo s n = min 4611686018427387904 (s.time + clampI n 0 64) := rfl
  have hm : (n < 0 ∧ clampI n 0 64 = 0) ∨ (¬ n < 0 ∧ 64 < n ∧ clampI n 0 64 = 64) ∨ (¬ n < 0 ∧ ¬ 64 < n ∧ clampI n 0 64 = n) := by unfold clampI; omega
  have hmb : 0 ≤ clampI n 0 64 ∧ clampI n 0 64 ≤ 64 := by unfold clampI; omega
  obtain ⟨hm0, hm1⟩ := hmb
  have hT : (s.time ≤ 4611686018427387904 - clampI n 0 64 ∧ s.time + clampI n 0 64 = timeTo s n) ∨ (¬ s.time ≤ 4611686018427387904 - clampI n 0 64 ∧ timeTo s n = 4611686018427387904) := by omega
  unfold maxLen at hs
  have HR := Lib.hid hr
  clear h hr hT0
  have HTK : Hid (∀ k, tk n sk k = goesF (clampI n 0 64) (sk.getD k 0)) := fun k => rfl
  generalize clampI n 0 64 = m at *
  generalize hTe : timeTo s n = T at *
  have hTT := Lib.hid hTe
  have HT := Lib.hid hT
  clear hTe hT
  have hAF : Hid (∀ wx, Kept (fun k => k = p ∨ (Value.slice (some ⟨gc, off, none⟩) s.clocks.length cap).ownBlock = some k) w wx → Rd wx A (ivals sk)) := fun wx hk => by
    by_cases hs0 : sk = []
    · exact .inl (by rw [hs0]; rfl)
    · exact HR.out.kept hk fun a ha hf => hA a ha hs0 (H.out.fp2 _ hf)
  have hgcp : gc ≠ p := fun e => H.out.ap1 (by rw [e]; rfl)
  clear hA
  rcases hm with ⟨n0, n1⟩ | ⟨n0, n2, n1⟩ | ⟨n0, n2, n1⟩
  all_goals
    subst m
    rcases HT.out with ⟨hle, hTS⟩ | ⟨hle, hT2⟩
  all_goals (try (exfalso; omega))
  all_goals
    go_enter Try.func23, Try.ntmps23
    go_wp2_with fail
    (try rw [← hT2])
    clear HT
    (try clear hTS)
    (try clear hT2)
    clear hle n0 h0 f0 h1
    have hB0 : Hid (Blk (w.setCell ⟨p, 0, none⟩ (.int .i64 T)) p 54 [.int .i64 T, .slice (some ⟨gc, off, none⟩) s.clocks.length cap, kv]) := H.out.ptr.set_ 0 _
    have hG0 : Hid (GOwn (w.setCell ⟨p, 0, none⟩ (.int .i64 T)) 3 1 (.slice (some ⟨gc, off, none⟩) s.clocks.length cap) s.clocks.length (ivals s.clocks)) := H.out.clk.keep fun b hb => Below.heap_setCell w _ _ b (fun e => by simp only at e; subst e; exact H.out.ap1 hb)
    have hK0 : Hid (Kept (fun k => k = p ∨ (Value.slice (some ⟨gc, off, none⟩) s.clocks.length cap).ownBlock = some k) w (w.setCell ⟨p, 0, none⟩ (.int .i64 T))) := Kept.set (p := ⟨p, 0, none⟩) (Kept.refl _ _) (.inl (.inl rfl)) _
    generalize w.setCell ⟨p, 0, none⟩ (.int .i64 T) = W1 at *
    go_loopw [7, 8] (fun v i wr => ∃ k : Nat, k ≤ s.clocks.length ∧ i = .int .i64 (k : Int) ∧ wr.ownsRow w.heap.size 3 1 v k (ivals (told n sk k)) ∧ Blk wr p 54 [.int .i64 T, .slice (some ⟨gc, off, none⟩) s.clocks.length cap, kv] ∧ GOwn wr 3 1 (.slice (some ⟨gc, off, none⟩) s.clocks.length cap) s.clocks.length (ivals (clocksTo s n sk k)) ∧ Kept (fun k => k = p ∨ (Value.slice (some ⟨gc, off, none⟩) s.clocks.length cap).ownBlock = some k) w wr) (fun _ i _ => s.clocks.length - (intOf i).toNat)
    case atStart => exact ⟨0, by omega, rfl, World.ownsRow_nil _ _ _ _, hB0.out, by rw [clocksTo_zero]; exact hG0.out, hK0.out⟩
    case round =>
      clear hB0 hG0 hK0
      obtain ⟨k, hk, rfl, hown, hB, hG, hK⟩ := hrel
      have HO := Lib.hid hown
      have HB := Lib.hid hB
      have HG := Lib.hid hG
      have HK := Lib.hid hK
      have hp1 : wr.cell? ⟨p, 1, none⟩ = some (.slice (some ⟨gc, off, none⟩) s.clocks.length cap) := hB.cell 1
      by_cases hlt : k < s.clocks.length
      · have hcell : wr.cell? ⟨gc, off + k, none⟩ = some (.int .i64 (s.clocks.getD k 0)) := by
          have := hG.cells k _ (ivals_at _ _ (by rw [clocksTo_length _ _ _ _ hk]; exact hlt))
          rw [clocksTo_get] at this
          exact this
        have hfz := hG.frozen (off + k)
        have HS := Lib.hid (clocksTo_set s n sk k hlt)
        have hset := HG.out.set k (.int .i64 (addF (s.clocks.getD k 0) (tk n sk k)))
        rw [ivals_set, HS.out] at hset
        have HSET := Lib.hid hset
        have HTO := Lib.hid (told_succ n sk k)
        have hlt' : (k : Int) < (s.clocks.length : Int) := by omega
        have hrd := hAF.out wr hK
        have htk := HTK.out k
        clear hown hB hG hK hset
        generalize s.clocks.getD k 0 = z at *
        by_cases hks : k < sk.length
        · obtain ⟨b2, o2, hA2, _, hc2⟩ := hrd.at (j := k) (by rw [ivals_length]; exact hks)
          have hc3 := hc2 k _ (ivals_at _ _ hks)
          have hks' : (k : Int) < (sk.length : Int) := by omega
          subst hA2
          have HTKk := Lib.hid htk
          clear htk hc2 hrd
          generalize sk.getD k 0 = y at hc3 HTKk
          go_wp2_with fail
          refine (rgoes_any _ _ _).mono ?_
          rintro e w' ⟨rfl, rfl⟩
          go_wp2_with fail
          refine (rgoes_any _ _ _).mono ?_
          rintro e w' ⟨rfl, rfl⟩
          rw [← HTKk.out]
          generalize tk n sk k = G at *
          go_wp2_with fail
          refine still_tail 14 (by kernel_rfl) (by kernel_rfl) ?_
          simp only [List.take_succ_cons, List.take_zero, List.drop_succ_cons, List.drop_zero]
          repeat (first | still_step | still_call (radd_same _ _ _))
          try refine wpStill_nil ?_
          have hw6 : Hid (Kept (fun k => k = p ∨ (Value.slice (some ⟨gc, off, none⟩) s.clocks.length cap).ownBlock = some k) w (wr.setCell ⟨gc, off + k, none⟩ (.int .i64 (addF z G))).drew) := (HK.out.set (p := ⟨gc, off + k, none⟩) (.inl (.inr rfl)) _).drew
          have hG6 : Hid (GOwn (wr.setCell ⟨gc, off + k, none⟩ (.int .i64 (addF z G))).drew 3 1 (.slice (some ⟨gc, off, none⟩) s.clocks.length cap) s.clocks.length (ivals (clocksTo s n sk (k + 1)))) := HSET.out
          have hB6 : Hid (Blk (wr.setCell ⟨gc, off + k, none⟩ (.int .i64 (addF z G))).drew p 54 [.int .i64 T, .slice (some ⟨gc, off, none⟩) s.clocks.length cap, kv]) := HB.out.far (p := ⟨gc, off + k, none⟩) (Ne.symm hgcp) _
          have hO6 : Hid ((wr.setCell ⟨gc, off + k, none⟩ (.int .i64 (addF z G))).drew.ownsRow w.heap.size 3 1 u7 k (ivals (told n sk k))) := ownsRow_setCell_below (a := ⟨gc, off + k, none⟩) HO.out hgl _
          have hR6 : Hid (Rd ((wr.setCell ⟨gc, off + k, none⟩ (.int .i64 (addF z G))).drew.alloc (.cells #[.int .i64 G] 3)) (some ⟨wr.heap.size, 0, none⟩) (ivals [G])) := by
            have := Rd.of_blk (Blk.new (wr.setCell ⟨gc, off + k, none⟩ (.int .i64 (addF z G))).drew 3 (ivals [G])) 0
            rw [show (wr.setCell ⟨gc, off + k, none⟩ (.int .i64 (addF z G))).drew.heap.size = wr.heap.size by simp] at this
            exact this
          go_wp2_with (at_builtin; obtain ⟨v8, w8, hrun8, own8, grow8, at8⟩ := app_own intE 29 (hO6.out.alloc (.cells #[.int .i64 G] 3)) (A := some ⟨wr.heap.size, 0, none⟩) (news := ivals [G]) 1 1 hR6.out rfl (ivals_one _) (by omega) (by unfold maxLen; omega) (by simp; exact Nat.le_succ_of_le HK.out.size); refine wpl_append rfl (.tmp 69) (.tmp 71) 29 29 rfl _ _ rfl rfl hrun8 ?_; clear hrun8)
          go_roundw
          case rel =>
            have hne8 : ∀ b, b < w.heap.size → some b ≠ Value.ownBlock u7 := fun b hb e => by have := (hO6.out.lt b e.symm).1; omega
            refine ⟨k + 1, by omega, by go_num, ?_, ?_, ?_, ?_⟩
            · rw [HTO.out, ivals_append]
              exact own8
            · exact (hB6.out.alloc _).grown grow8 (hne8 p (H.out.lt p H.out.fpp))
            · exact (hG6.out.keep fun b hb => by
                obtain rfl : gc = b := by simpa [Value.ownBlock] using hb
                exact (grow8.block gc (by simp; have := HK.out.size; omega) (hne8 gc hgl)).trans (Below.heap_alloc (wr.setCell ⟨gc, off + k, none⟩ (.int .i64 (addF z G))).drew _ gc (by simp; have := HK.out.size; omega)))
            · exact (hw6.out.alloc _).grown grow8 (fun b hb => .inr (hO6.out.lt b hb).1)
          case measure => simp [intOf]; omega
        · have hsk : sk.getD k 0 = 0 := by rw [List.getD_eq_getElem?_getD, List.getElem?_eq_none (by omega)]; rfl
          rw [hsk] at htk
          have hks' : ¬ (k : Int) < (sk.length : Int) := by omega
          have HTKk := Lib.hid htk
          clear htk hrd hsk
          go_wp2_with fail
          refine (rgoes_any _ _ _).mono ?_
          rintro e w' ⟨rfl, rfl⟩
          rw [← HTKk.out]
          generalize tk n sk k = G at *
          go_wp2_with fail
          refine still_tail 14 (by kernel_rfl) (by kernel_rfl) ?_
          simp only [List.take_succ_cons, List.take_zero, List.drop_succ_cons, List.drop_zero]
          repeat (first | still_step | still_call (radd_same _ _ _))
          try refine wpStill_nil ?_
          have hw6 : Hid (Kept (fun k => k = p ∨ (Value.slice (some ⟨gc, off, none⟩) s.clocks.length cap).ownBlock = some k) w (wr.setCell ⟨gc, off + k, none⟩ (.int .i64 (addF z G))).drew) := (HK.out.set (p := ⟨gc, off + k, none⟩) (.inl (.inr rfl)) _).drew
          have hG6 : Hid (GOwn (wr.setCell ⟨gc, off + k, none⟩ (.int .i64 (addF z G))).drew 3 1 (.slice (some ⟨gc, off, none⟩) s.clocks.length cap) s.clocks.length (ivals (clocksTo s n sk (k + 1)))) := HSET.out
          have hB6 : Hid (Blk (wr.setCell ⟨gc, off + k, none⟩ (.int .i64 (addF z G))).drew p 54 [.int .i64 T, .slice (some ⟨gc, off, none⟩) s.clocks.length cap, kv]) := HB.out.far (p := ⟨gc, off + k, none⟩) (Ne.symm hgcp) _
          have hO6 : Hid ((wr.setCell ⟨gc, off + k, none⟩ (.int .i64 (addF z G))).drew.ownsRow w.heap.size 3 1 u7 k (ivals (told n sk k))) := ownsRow_setCell_below (a := ⟨gc, off + k, none⟩) HO.out hgl _
          have hR6 : Hid (Rd ((wr.setCell ⟨gc, off + k, none⟩ (.int .i64 (addF z G))).drew.alloc (.cells #[.int .i64 G] 3)) (some ⟨wr.heap.size, 0, none⟩) (ivals [G])) := by
            have := Rd.of_blk (Blk.new (wr.setCell ⟨gc, off + k, none⟩ (.int .i64 (addF z G))).drew 3 (ivals [G])) 0
            rw [show (wr.setCell ⟨gc, off + k, none⟩ (.int .i64 (addF z G))).drew.heap.size = wr.heap.size by simp] at this
            exact this
          go_wp2_with (at_builtin; obtain ⟨v8, w8, hrun8, own8, grow8, at8⟩ := app_own intE 29 (hO6.out.alloc (.cells #[.int .i64 G] 3)) (A := some ⟨wr.heap.size, 0, none⟩) (news := ivals [G]) 1 1 hR6.out rfl (ivals_one _) (by omega) (by unfold maxLen; omega) (by simp; exact Nat.le_succ_of_le HK.out.size); refine wpl_append rfl (.tmp 69) (.tmp 71) 29 29 rfl _ _ rfl rfl hrun8 ?_; clear hrun8)
          go_roundw
          case rel =>
            have hne8 : ∀ b, b < w.heap.size → some b ≠ Value.ownBlock u7 := fun b hb e => by have := (hO6.out.lt b e.symm).1; omega
            refine ⟨k + 1, by omega, by go_num, ?_, ?_, ?_, ?_⟩
            · rw [HTO.out, ivals_append]
              exact own8
            · exact (hB6.out.alloc _).grown grow8 (hne8 p (H.out.lt p H.out.fpp))
            · exact (hG6.out.keep fun b hb => by
                obtain rfl : gc = b := by simpa [Value.ownBlock] using hb
                exact (grow8.block gc (by simp; have := HK.out.size; omega) (hne8 gc hgl)).trans (Below.heap_alloc (wr.setCell ⟨gc, off + k, none⟩ (.int .i64 (addF z G))).drew _ gc (by simp; have := HK.out.size; omega)))
            · exact (hw6.out.alloc _).grown grow8 (fun b hb => .inr (hO6.out.lt b hb).1)
          case measure => simp [intOf]; omega
      · obtain rfl : k = s.clocks.length := by omega
        have hrep := H.out.upd hK hB (by rw [clocksTo_length _ _ _ _ (Nat.le_refl _)]; exact hG)
        have HREP : Hid (Rep 54 57 wr p (passSt s n sk) F) := ⟨_, _, _, by unfold passSt; rw [hTT.out]; exact hrep⟩
        have HKF : Hid (Kept F w wr) := hK.mono H.out.fp2
        clear hown hB hG hK hrep HB HG HK hlt
        go_wp2_with fail
        go_ret
        exact Passed.mk_ rfl HO.out HREP.out HKF.out
end Go.Proofs.Ytpljopocnlllcaa
