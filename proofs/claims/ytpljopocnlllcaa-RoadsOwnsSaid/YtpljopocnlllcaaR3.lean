/- Contract of Pass. -/
import Derived.Test.YtpljopocnlllcaaR2
import Derived.Deep.RegionWith
namespace Go.Proofs.Ytpljopocnlllcaa
open Go.RowKit
attribute [local go_sem ↓] Go.wp_at_zero Go.wp_at_succ
def tk (n : Int) (sk : List Int) (d : Nat) : Int := goesF (clampI n 0 64) (sk.getD d 0)
def clocksTo (s : St) (n : Int) (sk : List Int) (k : Nat) : List Int := ((List.range k).map fun d => addF (s.clocks.getD d 0) (tk n sk d)) ++ s.clocks.drop k
def timeTo (s : St) (n : Int) : Int := min 4611686018427387904 (s.time + clampI n 0 64)
def passSt (s : St) (n : Int) (sk : List Int) : St := ⟨timeTo s n, clocksTo s n sk s.clocks.length, s.ps⟩
def told (n : Int) (sk : List Int) (k : Nat) : List Int := (List.range k).map (tk n sk)
theorem clocksTo_zero (s : St) (n : Int) (sk : List Int) : clocksTo s n sk 0 = s.clocks := by simp [clocksTo]
theorem clocksTo_length (s : St) (n : Int) (sk : List Int) (k : Nat) (h : k ≤ s.clocks.length) : (clocksTo s n sk k).length = s.clocks.length := by simp [clocksTo]; omega
theorem clocksTo_get (s : St) (n : Int) (sk : List Int) (k : Nat) : (clocksTo s n sk k).getD k 0 = s.clocks.getD k 0 := by
  unfold clocksTo
  rw [List.getD_eq_getElem?_getD, List.getElem?_append_right (by simp)]
  simp [List.getElem?_drop]
theorem clocksTo_set (s : St) (n : Int) (sk : List Int) (k : Nat) (h : k < s.clocks.length) : (clocksTo s n sk k).set k (addF (s.clocks.getD k 0) (tk n sk k)) = clocksTo s n sk (k + 1) := by
  unfold clocksTo
  have e : s.clocks.drop k = s.clocks.getD k 0 :: s.clocks.drop (k + 1) := by
    rw [List.drop_eq_getElem_cons h, List.getD_eq_getElem?_getD, List.getElem?_eq_getElem h]
    rfl
  rw [List.set_append_right _ _ (by simp), List.range_succ, List.map_append, List.append_assoc, List.length_map, List.length_range, Nat.sub_self, e, List.set_cons_zero]
  rfl
theorem ivals_set (l : List Int) (k : Nat) (z : Int) : (ivals l).set k (.int .i64 z) = ivals (l.set k z) := by simp [ivals, List.map_set]
theorem told_succ (n : Int) (sk : List Int) (k : Nat) : told n sk (k + 1) = told n sk k ++ [tk n sk k] := by simp [told, List.range_succ]
theorem told_length (n : Int) (sk : List Int) (k : Nat) : (told n sk k).length = k := by simp [told]
theorem passSt_good (s : St) (n : Int) (sk : List Int) (h : s.good) : (passSt s n sk).good :=
  ⟨by show 2 ≤ (clocksTo s n sk s.clocks.length).length; rw [clocksTo_length _ _ _ _ (Nat.le_refl _)]; exact h.n0, by show (clocksTo s n sk s.clocks.length).length ≤ 16; rw [clocksTo_length _ _ _ _ (Nat.le_refl _)]; exact h.n1, h.p1,
   by have := h.t0; show 0 ≤ min _ (s.time + clampI n 0 64); unfold clampI; omega, by show min _ _ ≤ _; omega⟩
theorem GOwn.set {w : World} {e : TypeId} {g off n cap : Nat} {xs : List Value} (h : GOwn w e 1 (.slice (some ⟨g, off, none⟩) n cap) n xs) (j : Nat) (u : Value) : GOwn (w.setCell ⟨g, off + j, none⟩ u) e 1 (.slice (some ⟨g, off, none⟩) n cap) n (xs.set j u) := by
  refine ⟨by rw [List.length_set]; exact h.1, ?_⟩
  rcases h.2 with ⟨h1, _⟩ | ⟨g', off', cap', cur, h1, h2, h3, h4, h5, h6⟩
  · simp at h1
  · simp only [Value.slice.injEq, Option.some.injEq, Addr.mk.injEq, and_true, true_and] at h1
    obtain ⟨⟨rfl, rfl⟩, rfl⟩ := h1
    right
    refine ⟨g, off, cap, cur.setIfInBounds (off + j) u, rfl, ?_, h3, h4, by rw [Array.size_setIfInBounds]; exact h5, ?_⟩
    · simp [World.setCell, Array.getElem?_modify, h2]
    · rw [Array.toList_setIfInBounds, ← h6, List.drop_set, if_neg (by omega), List.take_set, show off + j - off = j by omega]
theorem RepW.upd {tw te : TypeId} {w w' : World} {p : Nat} {s : St} {F : Nat → Prop} {cv kv : Value} {qs : List Pk} (h : RepW tw te w p s F cv kv qs) (hk : Kept (fun k => k = p ∨ cv.ownBlock = some k) w w') {T : Int} {cl : List Int}
    (hp : Blk w' p tw [.int .i64 T, cv, kv]) (hc : GOwn w' 3 1 cv cl.length (ivals cl)) : RepW tw te w' p ⟨T, cl, s.ps⟩ F cv kv qs :=
  { ptr := hp
    clk := hc
    pks := h.pks.keep fun b hb => hk.block (h.lt b (h.fpk b hb)) (fun e => by
      rcases e with e | e
      · subst e; exact h.ap2 hb
      · exact h.ap3 b e hb)
    data := fun q hq => (h.data q hq).kept hk fun a ha e => by
      obtain ⟨h1, h2, h3⟩ := h.apd q hq a ha
      rcases e with e | e
      · exact h1 e
      · exact h2 e
    eq := h.eq, ap1 := h.ap1, ap2 := h.ap2, ap3 := h.ap3, apd := h.apd, fpp := h.fpp, fpc := h.fpc, fpk := h.fpk, fpd := h.fpd
    lt := fun b hb => Nat.lt_of_lt_of_le (h.lt b hb) hk.size }
theorem RepW.fp2 {tw te : TypeId} {w : World} {p : Nat} {s : St} {F : Nat → Prop} {cv kv : Value} {qs : List Pk} (h : RepW tw te w p s F cv kv qs) : ∀ k, (k = p ∨ cv.ownBlock = some k) → F k := fun k hk => by
  rcases hk with rfl | hk
  · exact h.fpp
  · exact h.fpc k hk
def Passed (tw te : TypeId) (p : Nat) (s : St) (n : Int) (sk : List Int) (F : Nat → Prop) (w : World) (e : Ending) (w' : World) : Prop :=
  ∃ v, e = .returned v ∧ w'.ownsRow w.heap.size 3 1 v s.clocks.length (ivals (told n sk s.clocks.length)) ∧ Rep tw te w' p (passSt s n sk) F ∧ Kept F w w'
theorem Passed.mk_ {tw te : TypeId} {p : Nat} {s : St} {n : Int} {sk : List Int} {F : Nat → Prop} {w w' : World} {e : Ending} {v : Value} (he : e = .returned v) (h1 : w'.ownsRow w.heap.size 3 1 v s.clocks.length (ivals (told n sk s.clocks.length))) (h2 : Rep tw te w' p (passSt s n sk) F) (h3 : Kept F w w') : Passed tw te p s n sk F w e w' := ⟨v, he, h1, h2, h3⟩
theorem add_same (a b : Int) (w : World) : Calls Try.prog 30 #[.int .i64 a, .int .i64 b] w fun e w' => e = .returned (.int .i64 (addF a b)) ∧ w' = w := (add_any a b w).mono fun _ _ ⟨h1, h2⟩ => ⟨h1, h2.symm⟩
attribute [local go_sem] max2_i min2_i max_2 min_2
set_option maxRecDepth 100000 in
set_option maxHeartbeats 2000000 in
theorem pass_any {w : World} {p : Nat} {s : St} {F : Nat → Prop} (n : Int) (A : Option Addr) (c : Nat) (sk : List Int) (h : Rep 51 64 w p s F) (hg : s.good) (hr : Rd w A (ivals sk)) (hA : ∀ a, A = some a → sk ≠ [] → ¬ F a.block) (hs : sk.length ≤ maxLen) :
    Calls Try.prog 13 #[.pointer (some ⟨p, 0, none⟩), .int .i64 n, .slice A sk.length c] w (Passed 51 64 p s n sk F w) := by
  obtain ⟨cv, kv, qs, h⟩ := h
  obtain ⟨gc, off, cap, hcv, hnc, hcm, hgl⟩ := h.clk.form (by have := hg.n0; omega)
  subst hcv
  have H := Lib.hid h
  have hn1 := hg.n1
  have ht0 := hg.t0
  have ht1 := hg.t1
  have h0 : w.cell? ⟨p, 0, none⟩ = some (.int .i64 s.time) := h.ptr.cell 0
  have f0 := h.ptr.frozen 0
  have h1 : w.cell? ⟨p, 1, none⟩ = some (.slice (some ⟨gc, off, none⟩) s.clocks.length cap) := h.ptr.cell 1
  have hT : Hid (timeTo s n = min 4611686018427387904 (s.time + clampI n 0 64)) := rfl
  have hm : max 0 (min n 64) = clampI n 0 64 := rfl
  have hmb : 0 ≤ clampI n 0 64 ∧ clampI n 0 64 ≤ 64 := by unfold clampI; omega
  obtain ⟨hm0, hm1⟩ := hmb
  have hTS : min 4611686018427387904 (s.time + clampI n 0 64) = timeTo s n := rfl
  unfold maxLen at hs
  have HR := Lib.hid hr
  have hlen : s.clocks.length = s.clocks.length := rfl
  clear h hr hT hlen
  have HTK : Hid (∀ k, tk n sk k = goesF (clampI n 0 64) (sk.getD k 0)) := fun k => rfl
  generalize clampI n 0 64 = m at *
  generalize hTe : timeTo s n = T at *
  have hTT := Lib.hid hTe
  clear hTe
  go_enter Try.func13, Try.ntmps13
  go_wp2_with fail
  have hB0 : Hid (Blk (w.setCell ⟨p, 0, none⟩ (.int .i64 T)) p 51 [.int .i64 T, .slice (some ⟨gc, off, none⟩) s.clocks.length cap, kv]) := H.out.ptr.set_ 0 _
  have hG0 : Hid (GOwn (w.setCell ⟨p, 0, none⟩ (.int .i64 T)) 3 1 (.slice (some ⟨gc, off, none⟩) s.clocks.length cap) s.clocks.length (ivals s.clocks)) := H.out.clk.keep fun b hb => Below.heap_setCell w _ _ b (fun e => by simp only at e; subst e; exact H.out.ap1 hb)
  have hK0 : Hid (Kept (fun k => k = p ∨ (Value.slice (some ⟨gc, off, none⟩) s.clocks.length cap).ownBlock = some k) w (w.setCell ⟨p, 0, none⟩ (.int .i64 T))) := Kept.set (p := ⟨p, 0, none⟩) (Kept.refl _ _) (.inl (.inl rfl)) _
  have hAF : Hid (∀ wx, Kept (fun k => k = p ∨ (Value.slice (some ⟨gc, off, none⟩) s.clocks.length cap).ownBlock = some k) w wx → Rd wx A (ivals sk)) := fun wx hk => by
    by_cases hs0 : sk = []
    · exact .inl (by rw [hs0]; rfl)
    · exact HR.out.kept hk fun a ha hf => hA a ha hs0 (H.out.fp2 _ hf)
  have hgcp : gc ≠ p := fun e => H.out.ap1 (by rw [e]; rfl)
  generalize w.setCell ⟨p, 0, none⟩ (.int .i64 T) = W1 at *
  clear h0 f0 h1 hA hm hTS
  go_loopw [7, 29] (fun v i wr => ∃ k : Nat, k ≤ s.clocks.length ∧ i = .int .i64 (k : Int) ∧ wr.ownsRow w.heap.size 3 1 v k (ivals (told n sk k)) ∧ Blk wr p 51 [.int .i64 T, .slice (some ⟨gc, off, none⟩) s.clocks.length cap, kv] ∧ GOwn wr 3 1 (.slice (some ⟨gc, off, none⟩) s.clocks.length cap) s.clocks.length (ivals (clocksTo s n sk k)) ∧ Kept (fun k => k = p ∨ (Value.slice (some ⟨gc, off, none⟩) s.clocks.length cap).ownBlock = some k) w wr) (fun _ i _ => s.clocks.length - (intOf i).toNat)
  case atStart => exact ⟨0, by omega, rfl, World.ownsRow_nil _ _ _ _, hB0.out, by rw [clocksTo_zero]; exact hG0.out, hK0.out⟩
  case round =>
    clear hB0 hG0 hK0
    obtain ⟨k, hk, rfl, hown, hB, hG, hK⟩ := hrel
    have HO := Lib.hid hown
    have HB := Lib.hid hB
    have HG := Lib.hid hG
    have HK := Lib.hid hK
    by_cases hlt : k < s.clocks.length
    · have hcell : wr.cell? ⟨gc, off + k, none⟩ = some (.int .i64 (s.clocks.getD k 0)) := by
        have := hG.cells k _ (ivals_at _ _ (by rw [clocksTo_length _ _ _ _ hk]; exact hlt))
        rw [clocksTo_get] at this
        exact this
      have hfz := hG.frozen (off + k)
      have hp1 : wr.cell? ⟨p, 1, none⟩ = some (.slice (some ⟨gc, off, none⟩) s.clocks.length cap) := hB.cell 1
      have HS := Lib.hid (clocksTo_set s n sk k hlt)
      have hset := HG.out.set k (.int .i64 (addF (s.clocks.getD k 0) (tk n sk k)))
      rw [ivals_set, HS.out] at hset
      have HSET := Lib.hid hset
      have HTO := Lib.hid (told_succ n sk k)
      have hlt' : (k : Int) < (s.clocks.length : Int) := by omega
      have hrd := hAF.out wr hK
      have htk := HTK.out k
      clear hown hB hG hK hset
      generalize s.clocks.getD k 0 = z at *
      by_cases hks : k < sk.length
      · obtain ⟨b2, o2, hA2, _, hc2⟩ := hrd.at (j := k) (by rw [ivals_length]; exact hks)
        have hc3 := hc2 k _ (ivals_at _ _ hks)
        have hks' : (k : Int) < (sk.length : Int) := by omega
        subst hA2
        have HTKk := Lib.hid htk
        clear htk hc2 hrd
        generalize sk.getD k 0 = y at hc3 HTKk
        go_wp2_with fail
        refine (goes_any _ _ _).mono ?_
        rintro e w' ⟨rfl, rfl⟩
        rw [← HTKk.out]
        generalize tk n sk k = G at *
        go_wp2_with fail
        refine still_tail 14 (by kernel_rfl) (by kernel_rfl) ?_
        simp only [List.take_succ_cons, List.take_zero, List.drop_succ_cons, List.drop_zero]
        repeat (first | still_step | still_call (add_same _ _ _))
        try refine wpStill_nil ?_
        have hw6 : Hid (Kept (fun k => k = p ∨ (Value.slice (some ⟨gc, off, none⟩) s.clocks.length cap).ownBlock = some k) w (wr.setCell ⟨gc, off + k, none⟩ (.int .i64 (addF z G))).drew) := (HK.out.set (p := ⟨gc, off + k, none⟩) (.inl (.inr rfl)) _).drew
        have hG6 : Hid (GOwn (wr.setCell ⟨gc, off + k, none⟩ (.int .i64 (addF z G))).drew 3 1 (.slice (some ⟨gc, off, none⟩) s.clocks.length cap) s.clocks.length (ivals (clocksTo s n sk (k + 1)))) := HSET.out
        have hB6 : Hid (Blk (wr.setCell ⟨gc, off + k, none⟩ (.int .i64 (addF z G))).drew p 51 [.int .i64 T, .slice (some ⟨gc, off, none⟩) s.clocks.length cap, kv]) := HB.out.far (p := ⟨gc, off + k, none⟩) (Ne.symm hgcp) _
        have hO6 : Hid ((wr.setCell ⟨gc, off + k, none⟩ (.int .i64 (addF z G))).drew.ownsRow w.heap.size 3 1 u7 k (ivals (told n sk k))) := ownsRow_setCell_below (a := ⟨gc, off + k, none⟩) HO.out hgl _
        have hR6 : Hid (Rd ((wr.setCell ⟨gc, off + k, none⟩ (.int .i64 (addF z G))).drew.alloc (.cells #[.int .i64 G] 3)) (some ⟨wr.heap.size, 0, none⟩) (ivals [G])) := by
          have := Rd.of_blk (Blk.new (wr.setCell ⟨gc, off + k, none⟩ (.int .i64 (addF z G))).drew 3 (ivals [G])) 0
          rw [show (wr.setCell ⟨gc, off + k, none⟩ (.int .i64 (addF z G))).drew.heap.size = wr.heap.size by simp] at this
          exact this
        go_wp2_with (at_builtin; obtain ⟨v8, w8, hrun8, own8, grow8, at8⟩ := app_own intE 29 (hO6.out.alloc (.cells #[.int .i64 G] 3)) (A := some ⟨wr.heap.size, 0, none⟩) (news := ivals [G]) 1 1 hR6.out rfl (ivals_one _) (by omega) (by unfold maxLen; omega) (by simp; exact Nat.le_succ_of_le HK.out.size); refine wpl_append rfl (.tmp 58) (.tmp 60) 29 29 rfl _ _ rfl rfl hrun8 ?_; clear hrun8)
        go_roundw
        case rel =>
          have hne8 : ∀ b, b < w.heap.size → some b ≠ Value.ownBlock u7 := fun b hb e => by have := (hO6.out.lt b e.symm).1; omega
          refine ⟨k + 1, by omega, by go_num, ?_, ?_, ?_, ?_⟩
          · rw [HTO.out, ivals_append]
            exact own8
          · exact (hB6.out.alloc _).grown grow8 (hne8 p (H.out.lt p H.out.fpp))
          · exact (hG6.out.keep fun b hb => by
              obtain rfl : gc = b := by simpa [Value.ownBlock] using hb
              exact (grow8.block gc (by simp; have := HK.out.size; omega) (hne8 gc hgl)).trans (Below.heap_alloc (wr.setCell ⟨gc, off + k, none⟩ (.int .i64 (addF z G))).drew _ gc (by simp; have := HK.out.size; omega)))
          · exact (hw6.out.alloc _).grown grow8 (fun b hb => .inr (hO6.out.lt b hb).1)
        case measure => simp [intOf]; omega
      · have hsk : sk.getD k 0 = 0 := by rw [List.getD_eq_getElem?_getD, List.getElem?_eq_none (by omega)]; rfl
        rw [hsk] at htk
        have hks' : ¬ (k : Int) < (sk.length : Int) := by omega
        have HTKk := Lib.hid htk
        clear htk hrd hsk
        go_wp2_with fail
        refine (goes_any _ _ _).mono ?_
        rintro e w' ⟨rfl, rfl⟩
        rw [← HTKk.out]
        generalize tk n sk k = G at *
        go_wp2_with fail
        refine still_tail 14 (by kernel_rfl) (by kernel_rfl) ?_
        simp only [List.take_succ_cons, List.take_zero, List.drop_succ_cons, List.drop_zero]
        repeat (first | still_step | still_call (add_same _ _ _))
        try refine wpStill_nil ?_
        have hw6 : Hid (Kept (fun k => k = p ∨ (Value.slice (some ⟨gc, off, none⟩) s.clocks.length cap).ownBlock = some k) w (wr.setCell ⟨gc, off + k, none⟩ (.int .i64 (addF z G))).drew) := (HK.out.set (p := ⟨gc, off + k, none⟩) (.inl (.inr rfl)) _).drew
        have hG6 : Hid (GOwn (wr.setCell ⟨gc, off + k, none⟩ (.int .i64 (addF z G))).drew 3 1 (.slice (some ⟨gc, off, none⟩) s.clocks.length cap) s.clocks.length (ivals (clocksTo s n sk (k + 1)))) := HSET.out
        have hB6 : Hid (Blk (wr.setCell ⟨gc, off + k, none⟩ (.int .i64 (addF z G))).drew p 51 [.int .i64 T, .slice (some ⟨gc, off, none⟩) s.clocks.length cap, kv]) := HB.out.far (p := ⟨gc, off + k, none⟩) (Ne.symm hgcp) _
        have hO6 : Hid ((wr.setCell ⟨gc, off + k, none⟩ (.int .i64 (addF z G))).drew.ownsRow w.heap.size 3 1 u7 k (ivals (told n sk k))) := ownsRow_setCell_below (a := ⟨gc, off + k, none⟩) HO.out hgl _
        have hR6 : Hid (Rd ((wr.setCell ⟨gc, off + k, none⟩ (.int .i64 (addF z G))).drew.alloc (.cells #[.int .i64 G] 3)) (some ⟨wr.heap.size, 0, none⟩) (ivals [G])) := by
          have := Rd.of_blk (Blk.new (wr.setCell ⟨gc, off + k, none⟩ (.int .i64 (addF z G))).drew 3 (ivals [G])) 0
          rw [show (wr.setCell ⟨gc, off + k, none⟩ (.int .i64 (addF z G))).drew.heap.size = wr.heap.size by simp] at this
          exact this
        go_wp2_with (at_builtin; obtain ⟨v8, w8, hrun8, own8, grow8, at8⟩ := app_own intE 29 (hO6.out.alloc (.cells #[.int .i64 G] 3)) (A := some ⟨wr.heap.size, 0, none⟩) (news := ivals [G]) 1 1 hR6.out rfl (ivals_one _) (by omega) (by unfold maxLen; omega) (by simp; exact Nat.le_succ_of_le HK.out.size); refine wpl_append rfl (.tmp 58) (.tmp 60) 29 29 rfl _ _ rfl rfl hrun8 ?_; clear hrun8)
        go_roundw
        case rel =>
          have hne8 : ∀ b, b < w.heap.size → some b ≠ Value.ownBlock u7 := fun b hb e => by have := (hO6.out.lt b e.symm).1; omega
          refine ⟨k + 1, by omega, by go_num, ?_, ?_, ?_, ?_⟩
          · rw [HTO.out, ivals_append]
            exact own8
          · exact (hB6.out.alloc _).grown grow8 (hne8 p (H.out.lt p H.out.fpp))
          · exact (hG6.out.keep fun b hb => by
              obtain rfl : gc = b := by simpa [Value.ownBlock] using hb
              exact (grow8.block gc (by simp; have := HK.out.size; omega) (hne8 gc hgl)).trans (Below.heap_alloc (wr.setCell ⟨gc, off + k, none⟩ (.int .i64 (addF z G))).drew _ gc (by simp; have := HK.out.size; omega)))
          · exact (hw6.out.alloc _).grown grow8 (fun b hb => .inr (hO6.out.lt b hb).1)
        case measure => simp [intOf]; omega
    · obtain rfl : k = s.clocks.length := by omega
      have hrep := H.out.upd hK hB (by rw [clocksTo_length _ _ _ _ (Nat.le_refl _)]; exact hG)
      have HREP : Hid (Rep 51 64 wr p (passSt s n sk) F) := ⟨_, _, _, by unfold passSt; rw [hTT.out]; exact hrep⟩
      have HKF : Hid (Kept F w wr) := hK.mono H.out.fp2
      clear hown hB hG hK hrep HB HG HK hlt
      go_wp2_with fail
      go_ret
      exact Passed.mk_ rfl HO.out HREP.out HKF.out
end Go.Proofs.Ytpljopocnlllcaa
