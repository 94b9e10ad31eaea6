/- Done: a side behind the first so many units, the reference's; Now. -/
import Derived.Test.YtpcmfbdlfjlobaaU1
namespace Go.Proofs.Ytpcmfbdlfjlobaa
open Go.RowKit
set_option linter.unusedVariables false
attribute [local go_sem ↓] Go.wp_at_zero Go.wp_at_succ
/-- x[:k], with the room behind it. -/
theorem GOwn.cut {w : World} {e : TypeId} {size n cap : Nat} {A : Option Addr} {xs : List Value} (h : GOwn w e size (.slice A n cap) n xs) {k : Nat} (hk : k ≤ n) : GOwn w e size (.slice A k cap) k (xs.take (k * size)) := by
  have hks : k * size ≤ n * size := Nat.mul_le_mul_right _ hk
  refine ⟨by rw [List.length_take, h.1]; omega, ?_⟩
  rcases h.2 with ⟨h1, h2⟩ | ⟨g, off, cap', cur, h1, h2, h3, h4, h5, h6⟩
  · left
    injection h1 with hA _ hc
    have : k = 0 := by omega
    exact ⟨by rw [hA, hc, this], this⟩
  · right
    simp only [Value.slice.injEq, true_and] at h1
    obtain ⟨rfl, rfl⟩ := h1
    exact ⟨g, off, cap, cur, rfl, h2, Nat.le_trans hk h3, h4, h5, by rw [← h6, List.take_take, Nat.min_eq_left hks]⟩
def InvN (w : World) (o : Bool) (sf : Sd) (us : List Un) (N : Nat) (v i : Value) (wr : World) : Prop := ∃ (k : Nat) (A : Option Addr) (n c : Nat), k ≤ N ∧ i = .int .i64 (k : Int) ∧ v = .slice A n c ∧ GOwn wr 5 1 (.slice A n c) n (bvals ((runS sf (us.take k)).get o)) ∧ (∀ a, A = some a → w.heap.size ≤ a.block) ∧ Below w.heap.size w wr
theorem step_other (s : Sd) (o o' : Bool) (c : Option Nat) (b : UInt8) (h : o' ≠ o) : (stepS s ⟨o', c, b⟩).get o = s.get o := by cases o <;> cases o' <;> first | rfl | exact absurd rfl h
theorem step_add (s : Sd) (o : Bool) (b : UInt8) : (stepS s ⟨o, none, b⟩).get o = s.get o ++ [b] := by cases o <;> rfl
theorem step_cut (s : Sd) (o : Bool) (k : Nat) (b : UInt8) : (stepS s ⟨o, some k, b⟩).get o = (s.get o).take k := by cases o <;> rfl
set_option maxRecDepth 100000 in
set_option maxHeartbeats 8000000 in
theorem rdone_any {w : World} {q : Nat} {s : TSt} {F : Nat → Prop} (o : Bool) (N : Nat) (h : Rt w q s F) (hg : s.good) (hN : N ≤ s.us.length) (hl : s.us.length ≤ 1000000) :
    Calls Try.prog 37 #[.pointer (some ⟨q, 0, none⟩), .int .i64 (sdI o), .int .i64 (N : Int)] w (Cloned ((runS s.safe (s.us.take N)).get o) w) := by
  obtain ⟨g, r0, r1, uv, L, h, hL⟩ := h
  have H := Lib.hid h
  have HOK : Hid (okUs s.safe s.us) := hg.ok
  have HNU : Hid (N ≤ s.us.length) := hN
  obtain ⟨A0, c0, hn0, _, _⟩ := h.safe.o0.slice
  obtain ⟨A1, c1, hn1, _, _⟩ := h.safe.o1.slice
  obtain ⟨AU, cU, hu, _, _⟩ := h.us.slice
  subst hn0 hn1 hu
  have x0 : w.cell? ⟨q, 0, none⟩ = some (.slice (some ⟨g, 0, none⟩) 2 2) := h.ptr.cell 0
  have y0 : w.cell? ⟨g, 0, none⟩ = some (.slice A0 s.safe.a.length c0) := h.sfb.cell 0
  have y1 : w.cell? ⟨g, 1, none⟩ = some (.slice A1 s.safe.b.length c1) := h.sfb.cell 1
  have HZ : Hid (s.safe.a.length ≤ 65536 ∧ s.safe.b.length ≤ 65536) := hg.ok.ok
  clear h hL hg
  generalize hul : s.us.length = ul at *
  have HUL := Lib.hid hul
  clear hul
  have hN2 : N ≤ 1000000 := by omega
  cases o
  · simp only [sdI]
    go_enter Try.func37, Try.ntmps37
    go_wp2_with (at_builtin; obtain ⟨v5, w5, hrun5, own5, grow5, at5⟩ := g_app byteE 28 (GOwn.nil w 5 1) (A := A0) (news := bvals s.safe.a) s.safe.a.length c0 H.out.safe.o0.rd (by rw [bvals_length, Nat.mul_one]) (bvals_one _) (by have := HZ.out; omega) (by have := HZ.out; unfold maxLen; omega); simp only [Nat.zero_add, List.nil_append] at own5; obtain ⟨A5, c5, rfl, _, _⟩ := own5.slice; refine wpl_append rfl (.tmp 10) (.tmp 17) 28 28 rfl _ _ rfl rfl hrun5 ?_; clear hrun5)
    have HI : Hid (InvN w false s.safe s.us N (.slice A5 s.safe.a.length c5) (.int .i64 0) w5) := ⟨0, A5, _, c5, by omega, rfl, rfl, own5, fun a ha => by
      subst ha
      rcases at5 a.block rfl with e | e
      · simp [Value.ownBlock] at e
      · exact e, (Below.refl _ _).grown grow5 (Nat.le_refl _) (fun b hb => by simp [Value.ownBlock] at hb)⟩
    clear own5 grow5 at5 x0 y0 y1
    go_loopw [7, 8, 9] (fun v i _ wr => InvN w false s.safe s.us N v i wr) (fun _ i _ _ => N - (intOf i).toNat)
    case atStart => exact HI.out
    case round =>
      clear HI
      obtain ⟨k, A, n, c, hk, rfl, rfl, hown, hfr, hb⟩ := hrel
      have HO := Lib.hid hown
      have HB := Lib.hid hb
      have HFR := Lib.hid hfr
      have HT := Lib.hid (H.out.below hb)
      have hnl : n = ((runS s.safe (s.us.take k)).get false).length := by have := hown.1; rw [bvals_length] at this; omega
      obtain ⟨_, _, hv, hnc, hcm⟩ := hown.slice
      obtain ⟨rfl, rfl⟩ : A = _ ∧ c = _ := by injection hv with e1 _ e2; exact ⟨e1, e2⟩
      clear hown hb hfr hv
      by_cases hlt : k < N
      · have hlt' : (k : Int) < (N : Int) := by omega
        have hku : k < ul := by have := HNU.out; omega
        have hkl : k < s.us.length := by rw [HUL.out]; exact hku
        have hku' : (k : Int) < (ul : Int) := by omega
        obtain ⟨gu, off, cap, hvu, _, _, hgl⟩ := HT.out.us.form (by omega)
        obtain ⟨rfl, rfl⟩ : AU = some ⟨gu, off, none⟩ ∧ cU = cap := by injection hvu with e1 _ e2; exact ⟨e1, e2⟩
        have hat := okUs_at HOK.out k hkl
        have HST := runS_take_succ s.safe s.us k hkl
        have hus := HT.out.us
        rw [HUL.out] at hus
        obtain ⟨⟨uo, uc, ub⟩, hu⟩ : ∃ u, s.us[k] = u := ⟨_, rfl⟩
        rw [hu] at HST hat
        have x1 : wr.cell? ⟨q, 1, none⟩ = some (.slice (some ⟨gu, off, none⟩) ul cU) := HT.out.ptr.cell 1
        have ax1 : ∀ o', (wr.alloc o').cell? ⟨q, 1, none⟩ = some (.slice (some ⟨gu, off, none⟩) ul cU) := fun o' => (HT.out.ptr.alloc o').cell 1
        have hz : n ≤ 65536 := by rw [hnl]; exact hat.1.get _
        by_cases huo : uo = false
        · subst huo
          cases uc with
          | none =>
            have e0 := hus.cells _ _ (ucells_at s.us k hkl 0 (.int .i64 0) (by rw [hu]; rfl))
            have e1 := hus.cells _ _ (ucells_at s.us k hkl 1 (.int .i64 (-1)) (by rw [hu]; rfl))
            have e2 := hus.cells _ _ (ucells_at s.us k hkl 2 (.int .u8 (ub.toNat : Int)) (by rw [hu]; rfl))
            rw [← Nat.add_assoc] at e0 e1 e2
            rw [Nat.add_zero] at e0
            have HST2 := Lib.hid HST
            have HXR : Hid (Rd ((wr.alloc (.cells #[.int .i64 0, .int .i64 (-1), .int .u8 (ub.toNat : Int)] 67)).alloc (.cells #[.int .u8 (ub.toNat : Int)] 5)) (some ⟨wr.heap.size + 1, 0, none⟩) (bvals [ub])) := Rd.of_blk (cs := bvals [ub]) (Blk.new2 wr (.cells #[.int .i64 0, .int .i64 (-1), .int .u8 (ub.toNat : Int)] 67) (bvals [ub]) 5) 0
            have HOO : Hid (GOwn ((wr.alloc (.cells #[.int .i64 0, .int .i64 (-1), .int .u8 (ub.toNat : Int)] 67)).alloc (.cells #[.int .u8 (ub.toNat : Int)] 5)) 5 1 (.slice A n c) n (bvals ((runS s.safe (s.us.take k)).get false))) := HO.out.keep fun b hb => (Below.heap_alloc _ _ b (by have := HO.out.lt hb; simp; omega)).trans (Below.heap_alloc _ _ b (HO.out.lt hb))
            clear hat hus hu HST hvu hnl
            go_wp2_with (at_builtin; obtain ⟨v6, w6, hrun6, own6, grow6, at6⟩ := g_app byteE 28 HOO.out (A := some ⟨wr.heap.size + 1, 0, none⟩) (news := bvals [ub]) 1 1 HXR.out rfl (bvals_one _) (by omega) (by unfold maxLen; omega); obtain ⟨A6, c6, rfl, _, _⟩ := own6.slice; refine wpl_append rfl (.tmp 42) (.tmp 45) 28 28 rfl _ _ rfl rfl hrun6 ?_; clear hrun6)
            have HINV : Hid (InvN w false s.safe s.us N (.slice A6 (n + 1) c6) (.int .i64 ((k + 1 : Nat) : Int)) w6) := by
              refine ⟨k + 1, A6, n + 1, c6, by omega, rfl, rfl, ?_, ?_, ?_⟩
              · rw [HST2.out, step_add, bvals_append]
                exact own6
              · rintro a rfl
                rcases at6 a.block rfl with e | e
                · cases A with
                  | none => simp [Value.ownBlock] at e
                  | some a' =>
                    have : a'.block = a.block := by simpa [Value.ownBlock] using e
                    have := HFR.out a' rfl
                    omega
                · simp at e
                  have := HB.out.size
                  omega
              · refine ((HB.out.alloc HB.out.size _).alloc (by simp; exact Nat.le_succ_of_le HB.out.size) _).grown grow6 (by simp; have := HB.out.size; omega) (fun b hb => ?_)
                cases A with
                | none => simp [Value.ownBlock] at hb
                | some a' =>
                  have : a'.block = b := by simpa [Value.ownBlock] using hb
                  have := HFR.out a' rfl
                  omega
            clear own6 grow6 at6 HXR HOO HO HB HFR HT HST2 e0 e1 e2 x1 ax1
            go_roundw
            case rel => exact HINV.out
            case measure => simp [intOf]; omega
          | some k' =>
            have e0 := hus.cells _ _ (ucells_at s.us k hkl 0 (.int .i64 0) (by rw [hu]; rfl))
            have e1 := hus.cells _ _ (ucells_at s.us k hkl 1 (.int .i64 (k' : Int)) (by rw [hu]; rfl))
            have e2 := hus.cells _ _ (ucells_at s.us k hkl 2 (.int .u8 (ub.toNat : Int)) (by rw [hu]; rfl))
            rw [← Nat.add_assoc] at e0 e1 e2
            rw [Nat.add_zero] at e0
            have hkn : k' ≤ n := by rw [hnl]; exact hat.2 k' rfl
            have hkc : (k' : Int) ≤ (c : Int) := by omega
            have hk0 : (0 : Int) ≤ (k' : Int) := by omega
            have HINV : Hid (∀ o', InvN w false s.safe s.us N (.slice A k' c) (.int .i64 ((k + 1 : Nat) : Int)) (wr.alloc o')) := fun o' => by
              refine ⟨k + 1, A, k', c, by omega, rfl, rfl, ?_, HFR.out, HB.out.alloc HB.out.size _⟩
              rw [HST, step_cut, bvals_take]
              have := (HO.out.cut hkn).keep (w' := wr.alloc o') fun b hb => Below.heap_alloc _ _ b (HO.out.lt (by rw [← hb]; cases A <;> rfl))
              simpa using this
            clear hat hus hu HST hvu hnl HO HB HFR HT
            go_wp2_with fail
            go_roundw
            case rel => exact HINV.out _
            case measure => simp [intOf]; omega
        · have huo' : uo = true := by cases uo <;> first | rfl | exact absurd rfl huo
          subst huo'
          obtain ⟨z1, hz1⟩ : ∃ z1, (Un.cells ⟨true, uc, ub⟩) = [.int .i64 1, .int .i64 z1, .int .u8 (ub.toNat : Int)] := ⟨_, rfl⟩
          have e0 := hus.cells _ _ (ucells_at s.us k hkl 0 (.int .i64 1) (by rw [hu]; rfl))
          have e1 := hus.cells _ _ (ucells_at s.us k hkl 1 (.int .i64 z1) (by rw [hu, hz1]; rfl))
          have e2 := hus.cells _ _ (ucells_at s.us k hkl 2 (.int .u8 (ub.toNat : Int)) (by rw [hu]; rfl))
          rw [← Nat.add_assoc] at e0 e1 e2
          rw [Nat.add_zero] at e0
          have HINV : Hid (∀ o', InvN w false s.safe s.us N (.slice A n c) (.int .i64 ((k + 1 : Nat) : Int)) (wr.alloc o')) := fun o' => by
            refine ⟨k + 1, A, n, c, by omega, rfl, rfl, ?_, HFR.out, HB.out.alloc HB.out.size _⟩
            rw [HST, step_other _ _ _ _ _ huo]
            exact HO.out.keep fun b hb => Below.heap_alloc _ _ b (HO.out.lt hb)
          clear hat hus hu HST hvu hnl HO HB HFR HT huo hz1
          go_wp2_with fail
          go_roundw
          case rel => exact HINV.out _
          case measure => simp [intOf]; omega
      · obtain rfl : k = N := by omega
        have HF : Hid (Cloned ((runS s.safe (s.us.take k)).get false) w (.returned (.slice A n c)) wr) := by
          refine ⟨A, c, by rw [hnl], by rw [← hnl]; exact HO.out, fun a ha => ⟨HFR.out a ha, ?_⟩, HB.out⟩
          subst ha
          exact HO.out.lt rfl
        clear HO HB HFR HT hnl
        go_wp2_with fail
        go_ret
        exact HF.out
  · simp only [sdI]
    go_enter Try.func37, Try.ntmps37
    go_wp2_with (at_builtin; obtain ⟨v5, w5, hrun5, own5, grow5, at5⟩ := g_app byteE 28 (GOwn.nil w 5 1) (A := A1) (news := bvals s.safe.b) s.safe.b.length c1 H.out.safe.o1.rd (by rw [bvals_length, Nat.mul_one]) (bvals_one _) (by have := HZ.out; omega) (by have := HZ.out; unfold maxLen; omega); simp only [Nat.zero_add, List.nil_append] at own5; obtain ⟨A5, c5, rfl, _, _⟩ := own5.slice; refine wpl_append rfl (.tmp 10) (.tmp 17) 28 28 rfl _ _ rfl rfl hrun5 ?_; clear hrun5)
    have HI : Hid (InvN w true s.safe s.us N (.slice A5 s.safe.b.length c5) (.int .i64 0) w5) := ⟨0, A5, _, c5, by omega, rfl, rfl, own5, fun a ha => by
      subst ha
      rcases at5 a.block rfl with e | e
      · simp [Value.ownBlock] at e
      · exact e, (Below.refl _ _).grown grow5 (Nat.le_refl _) (fun b hb => by simp [Value.ownBlock] at hb)⟩
    clear own5 grow5 at5 x0 y0 y1
    go_loopw [7, 8, 9] (fun v i _ wr => InvN w true s.safe s.us N v i wr) (fun _ i _ _ => N - (intOf i).toNat)
    case atStart => exact HI.out
    case round =>
      clear HI
      obtain ⟨k, A, n, c, hk, rfl, rfl, hown, hfr, hb⟩ := hrel
      have HO := Lib.hid hown
      have HB := Lib.hid hb
      have HFR := Lib.hid hfr
      have HT := Lib.hid (H.out.below hb)
      have hnl : n = ((runS s.safe (s.us.take k)).get true).length := by have := hown.1; rw [bvals_length] at this; omega
      obtain ⟨_, _, hv, hnc, hcm⟩ := hown.slice
      obtain ⟨rfl, rfl⟩ : A = _ ∧ c = _ := by injection hv with e1 _ e2; exact ⟨e1, e2⟩
      clear hown hb hfr hv
      by_cases hlt : k < N
      · have hlt' : (k : Int) < (N : Int) := by omega
        have hku : k < ul := by have := HNU.out; omega
        have hkl : k < s.us.length := by rw [HUL.out]; exact hku
        have hku' : (k : Int) < (ul : Int) := by omega
        obtain ⟨gu, off, cap, hvu, _, _, hgl⟩ := HT.out.us.form (by omega)
        obtain ⟨rfl, rfl⟩ : AU = some ⟨gu, off, none⟩ ∧ cU = cap := by injection hvu with e1 _ e2; exact ⟨e1, e2⟩
        have hat := okUs_at HOK.out k hkl
        have HST := runS_take_succ s.safe s.us k hkl
        have hus := HT.out.us
        rw [HUL.out] at hus
        obtain ⟨⟨uo, uc, ub⟩, hu⟩ : ∃ u, s.us[k] = u := ⟨_, rfl⟩
        rw [hu] at HST hat
        have x1 : wr.cell? ⟨q, 1, none⟩ = some (.slice (some ⟨gu, off, none⟩) ul cU) := HT.out.ptr.cell 1
        have ax1 : ∀ o', (wr.alloc o').cell? ⟨q, 1, none⟩ = some (.slice (some ⟨gu, off, none⟩) ul cU) := fun o' => (HT.out.ptr.alloc o').cell 1
        have hz : n ≤ 65536 := by rw [hnl]; exact hat.1.get _
        by_cases huo : uo = true
        · subst huo
          cases uc with
          | none =>
            have e0 := hus.cells _ _ (ucells_at s.us k hkl 0 (.int .i64 1) (by rw [hu]; rfl))
            have e1 := hus.cells _ _ (ucells_at s.us k hkl 1 (.int .i64 (-1)) (by rw [hu]; rfl))
            have e2 := hus.cells _ _ (ucells_at s.us k hkl 2 (.int .u8 (ub.toNat : Int)) (by rw [hu]; rfl))
            rw [← Nat.add_assoc] at e0 e1 e2
            rw [Nat.add_zero] at e0
            have HST2 := Lib.hid HST
            have HXR : Hid (Rd ((wr.alloc (.cells #[.int .i64 1, .int .i64 (-1), .int .u8 (ub.toNat : Int)] 67)).alloc (.cells #[.int .u8 (ub.toNat : Int)] 5)) (some ⟨wr.heap.size + 1, 0, none⟩) (bvals [ub])) := Rd.of_blk (cs := bvals [ub]) (Blk.new2 wr (.cells #[.int .i64 1, .int .i64 (-1), .int .u8 (ub.toNat : Int)] 67) (bvals [ub]) 5) 0
            have HOO : Hid (GOwn ((wr.alloc (.cells #[.int .i64 1, .int .i64 (-1), .int .u8 (ub.toNat : Int)] 67)).alloc (.cells #[.int .u8 (ub.toNat : Int)] 5)) 5 1 (.slice A n c) n (bvals ((runS s.safe (s.us.take k)).get true))) := HO.out.keep fun b hb => (Below.heap_alloc _ _ b (by have := HO.out.lt hb; simp; omega)).trans (Below.heap_alloc _ _ b (HO.out.lt hb))
            clear hat hus hu HST hvu hnl
            go_wp2_with (at_builtin; obtain ⟨v6, w6, hrun6, own6, grow6, at6⟩ := g_app byteE 28 HOO.out (A := some ⟨wr.heap.size + 1, 0, none⟩) (news := bvals [ub]) 1 1 HXR.out rfl (bvals_one _) (by omega) (by unfold maxLen; omega); obtain ⟨A6, c6, rfl, _, _⟩ := own6.slice; refine wpl_append rfl (.tmp 42) (.tmp 45) 28 28 rfl _ _ rfl rfl hrun6 ?_; clear hrun6)
            have HINV : Hid (InvN w true s.safe s.us N (.slice A6 (n + 1) c6) (.int .i64 ((k + 1 : Nat) : Int)) w6) := by
              refine ⟨k + 1, A6, n + 1, c6, by omega, rfl, rfl, ?_, ?_, ?_⟩
              · rw [HST2.out, step_add, bvals_append]
                exact own6
              · rintro a rfl
                rcases at6 a.block rfl with e | e
                · cases A with
                  | none => simp [Value.ownBlock] at e
                  | some a' =>
                    have : a'.block = a.block := by simpa [Value.ownBlock] using e
                    have := HFR.out a' rfl
                    omega
                · simp at e
                  have := HB.out.size
                  omega
              · refine ((HB.out.alloc HB.out.size _).alloc (by simp; exact Nat.le_succ_of_le HB.out.size) _).grown grow6 (by simp; have := HB.out.size; omega) (fun b hb => ?_)
                cases A with
                | none => simp [Value.ownBlock] at hb
                | some a' =>
                  have : a'.block = b := by simpa [Value.ownBlock] using hb
                  have := HFR.out a' rfl
                  omega
            clear own6 grow6 at6 HXR HOO HO HB HFR HT HST2 e0 e1 e2 x1 ax1
            go_roundw
            case rel => exact HINV.out
            case measure => simp [intOf]; omega
          | some k' =>
            have e0 := hus.cells _ _ (ucells_at s.us k hkl 0 (.int .i64 1) (by rw [hu]; rfl))
            have e1 := hus.cells _ _ (ucells_at s.us k hkl 1 (.int .i64 (k' : Int)) (by rw [hu]; rfl))
            have e2 := hus.cells _ _ (ucells_at s.us k hkl 2 (.int .u8 (ub.toNat : Int)) (by rw [hu]; rfl))
            rw [← Nat.add_assoc] at e0 e1 e2
            rw [Nat.add_zero] at e0
            have hkn : k' ≤ n := by rw [hnl]; exact hat.2 k' rfl
            have hkc : (k' : Int) ≤ (c : Int) := by omega
            have hk0 : (0 : Int) ≤ (k' : Int) := by omega
            have HINV : Hid (∀ o', InvN w true s.safe s.us N (.slice A k' c) (.int .i64 ((k + 1 : Nat) : Int)) (wr.alloc o')) := fun o' => by
              refine ⟨k + 1, A, k', c, by omega, rfl, rfl, ?_, HFR.out, HB.out.alloc HB.out.size _⟩
              rw [HST, step_cut, bvals_take]
              have := (HO.out.cut hkn).keep (w' := wr.alloc o') fun b hb => Below.heap_alloc _ _ b (HO.out.lt (by rw [← hb]; cases A <;> rfl))
              simpa using this
            clear hat hus hu HST hvu hnl HO HB HFR HT
            go_wp2_with fail
            go_roundw
            case rel => exact HINV.out _
            case measure => simp [intOf]; omega
        · have huo' : uo = false := by cases uo <;> first | rfl | exact absurd rfl huo
          subst huo'
          obtain ⟨z1, hz1⟩ : ∃ z1, (Un.cells ⟨false, uc, ub⟩) = [.int .i64 0, .int .i64 z1, .int .u8 (ub.toNat : Int)] := ⟨_, rfl⟩
          have e0 := hus.cells _ _ (ucells_at s.us k hkl 0 (.int .i64 0) (by rw [hu]; rfl))
          have e1 := hus.cells _ _ (ucells_at s.us k hkl 1 (.int .i64 z1) (by rw [hu, hz1]; rfl))
          have e2 := hus.cells _ _ (ucells_at s.us k hkl 2 (.int .u8 (ub.toNat : Int)) (by rw [hu]; rfl))
          rw [← Nat.add_assoc] at e0 e1 e2
          rw [Nat.add_zero] at e0
          have HINV : Hid (∀ o', InvN w true s.safe s.us N (.slice A n c) (.int .i64 ((k + 1 : Nat) : Int)) (wr.alloc o')) := fun o' => by
            refine ⟨k + 1, A, n, c, by omega, rfl, rfl, ?_, HFR.out, HB.out.alloc HB.out.size _⟩
            rw [HST, step_other _ _ _ _ _ huo]
            exact HO.out.keep fun b hb => Below.heap_alloc _ _ b (HO.out.lt hb)
          clear hat hus hu HST hvu hnl HO HB HFR HT huo hz1
          go_wp2_with fail
          go_roundw
          case rel => exact HINV.out _
          case measure => simp [intOf]; omega
      · obtain rfl : k = N := by omega
        have HF : Hid (Cloned ((runS s.safe (s.us.take k)).get true) w (.returned (.slice A n c)) wr) := by
          refine ⟨A, c, by rw [hnl], by rw [← hnl]; exact HO.out, fun a ha => ⟨HFR.out a ha, ?_⟩, HB.out⟩
          subst ha
          exact HO.out.lt rfl
        clear HO HB HFR HT hnl
        go_wp2_with fail
        go_ret
        exact HF.out
theorem rnow_any {w : World} {q : Nat} {s : TSt} {F : Nat → Prop} (o : Bool) (h : Rt w q s F) (hg : s.good) (hl : s.us.length ≤ 1000000) :
    Calls Try.prog 22 #[.pointer (some ⟨q, 0, none⟩), .int .i64 (sdI o)] w (Cloned (s.now.get o) w) := by
  have HD := rdone_any o s.us.length h hg (Nat.le_refl _) hl
  rw [List.take_of_length_le (Nat.le_refl _)] at HD
  obtain ⟨g, r0, r1, uv, L, h, hL⟩ := h
  obtain ⟨AU, cU, hu, _, _⟩ := h.us.slice
  have x1 : w.cell? ⟨q, 1, none⟩ = some uv := h.ptr.cell 1
  rw [hu] at x1
  have HD2 := Lib.hid HD
  clear h hL hu HD hg
  generalize s.us.length = ul at *
  generalize sdI o = side at *
  go_enter Try.func22, Try.ntmps22
  go_wp2_with fail
  refine HD2.out.mono ?_
  rintro e w5 ⟨A5, c5, rfl, own5, hg5, hb5⟩
  have HF : Hid (Cloned (s.now.get o) w (.returned (.slice A5 (s.now.get o).length c5)) w5) := ⟨A5, c5, rfl, own5, hg5, hb5⟩
  clear own5 hg5 hb5 HD2
  go_wp2_with fail
  go_ret
  exact HF.out
end Go.Proofs.Ytpcmfbdlfjlobaa
