/- RoadsClocks. -/
import Derived.Test.YtpljopocnlllcaaCK
namespace Go.Proofs.Ytpljopocnlllcaa
open Go.RowKit
attribute [local go_sem ↓] Go.wp_at_zero Go.wp_at_succ
def InvA (B : Nat) (w : World) (p : Nat) (F : Nat → Prop) (s0 : St) (n : Nat) (i : Value) (wr : World) : Prop := ∃ k : Nat, ∃ s : St, k ≤ n ∧ k ≤ 100 ∧ i = .int .i64 (k : Int) ∧ Rep 51 64 wr p s F ∧ Ran s0 s k ∧ Below B w wr ∧ B ≤ wr.heap.size
def InvB (B : Nat) (w : World) (p : Nat) (F : Nat → Prop) (s0 : St) (n Q : Nat) (xs : List Value) (i : Value) (wr : World) : Prop := ∃ k : Nat, ∃ s : St, k ≤ n ∧ k ≤ 100 ∧ i = .int .i64 (k : Int) ∧ Rep 51 64 wr p s F ∧ Ran s0 s k ∧ Below B w wr ∧ B ≤ wr.heap.size ∧ Blk wr Q 38 xs
theorem Rep.drewC {tw te : TypeId} {w : World} {p : Nat} {s : St} {F : Nat → Prop} (h : Rep tw te w p s F) : Rep tw te w.drew p s F := h.below ⟨rfl, rfl, rfl, Nat.le_refl _, fun _ _ => rfl⟩
theorem Rd.lt_of {w : World} {A : Option Addr} {xs : List Value} (h : Rd w A xs) (hne : xs ≠ []) : ∀ a, A = some a → a.block < w.heap.size := by
  rintro a rfl
  rcases h with h | ⟨b, off, e, hlt, _⟩
  · exact absurd h hne
  · cases e
    exact hlt
set_option maxRecDepth 100000 in
set_option maxHeartbeats 16000000 in
theorem clocks_any (A : Option Addr) (c : Nat) (l : List Dd) (A2 : Option Addr) (c2 : Nat) (l2 : List Dd) (n : Int) (w : World) (h : DeedsAt w A l) (h2 : DeedsAt w A2 l2) (hl : l.length ≤ maxLen) (hl2 : l2.length ≤ maxLen) :
    Calls Try.prog 4 #[.slice A l.length c, .slice A2 l2.length c2, .int .i64 n] w (Lived w) := by
  unfold maxLen at hl hl2
  generalize hn : l.length = m at hl ⊢
  generalize hn2 : l2.length = m2 at hl2 ⊢
  have HN := Lib.hid hn
  have HN2 := Lib.hid hn2
  have HD := Lib.hid h
  have HD2 := Lib.hid h2
  clear hn hn2 h h2
  go_enter Try.func4, Try.ntmps4
  go_wp2_with fail
  refine (new_any 5 w (by omega) (by omega)).mono ?_
  rintro e w1 ⟨p, F, rfl, hr1, hlo1, hb1⟩
  have HR1 := Lib.hid hr1
  have HK1 := Lib.hid hb1
  have HL := Lib.hid hlo1
  clear hr1 hb1 hlo1
  go_wp2_with fail
  go_loopw [8] (fun i wr => InvA w.heap.size w p F (st0 5) m i wr) (fun i _ => 100 - (intOf i).toNat)
  case atStart => exact ⟨0, st0 5, by omega, by omega, rfl, HR1.out, Ran.refl _ (st0_good 5 (by omega) (by omega)) (by decide), HK1.out, HK1.out.size⟩
  case round =>
    clear HR1 HK1
    obtain ⟨k, s, hk, hk1, rfl, hr, hran, hb, hsz⟩ := hrel
    have HR := Lib.hid hr
    have HRAN := Lib.hid hran
    have HB := Lib.hid hb
    have HSZ : Hid (w.heap.size ≤ wr.heap.size) := hsz
    clear hr hran hb hsz
    by_cases hlt : k < m ∧ k < 100
    · obtain ⟨hkn, hk100⟩ := hlt
      have hkn' : (k : Int) < (m : Int) := by omega
      have hk100' : (k : Int) < 100 := by omega
      obtain ⟨b, off, rfl, hbl, hc, hok⟩ := HD.out.at_ k (by rw [HN.out]; exact hkn)
      generalize (l[k]'(by rw [HN.out]; exact hkn)) = d at hc hok
      have HOK := Lib.hid (hok.below HB.out)
      have hc' : ∀ j v, d.cells[j]? = some v → wr.cell? ⟨b, off + k * 7 + j, none⟩ = some v := fun j v hv => (World.cell?_of_block (w := w) (a := ⟨b, off + k * 7 + j, none⟩) (HB.out.block b hbl)).trans (hc j v hv)
      obtain ⟨kind, N, to, place, sa, sk, sc, da, bs, dc, stays⟩ := d
      have HFAR : Hid (∀ a, sa = some a → sk.take 20 ≠ [] → ¬ F a.block) := fun a ha hne hF => by
        have h1 := hok.rs.lt_of (fun e => hne (by cases sk with | nil => rfl | cons x y => simp [ivals] at e)) a ha
        have h2 := HL.out _ hF
        omega
      have x0 := hc' 0 _ rfl
      have x1 := hc' 1 _ rfl
      have x2 := hc' 2 _ rfl
      have x3 := hc' 3 _ rfl
      have x4 := hc' 4 _ rfl
      have x5 := hc' 5 _ rfl
      have x6 := hc' 6 _ rfl
      rw [Nat.add_zero] at x0
      clear hc hok hc' hbl
      go_wp2_with fail
      refine (cut_any ⟨kind, N, to, place, sa, sk, sc, da, bs, dc, stays⟩ wr HOK.out).mono ?_
      rintro e w2 ⟨rfl, hb2⟩
      have HOK2 : Hid (Dd.ok w2 (Dd.cut ⟨kind, N, to, place, sa, sk, sc, da, bs, dc, stays⟩)) := HOK.out.cut.below hb2
      have HB2 : Hid (Below w.heap.size w w2) := HB.out.trans (hb2.mono HSZ.out)
      have HR2 : Hid (Rep 51 64 w2 p s F) := HR.out.below hb2
      have HZ2 : Hid (w.heap.size ≤ w2.heap.size) := HB2.out.size
      rw [show (Dd.cut ⟨kind, N, to, place, sa, sk, sc, da, bs, dc, stays⟩).cells.toArray = #[.int .i64 kind, .int .i64 N, .int .i64 to, .int .i64 place, .slice sa (sk.take 20).length sc, .slice da (bs.take 20).length dc, .bool stays] from rfl]
      have HSK : Hid (Rd w2 sa (ivals (sk.take 20)) ∧ (sk.take 20).length ≤ 20) := ⟨HOK2.out.rs, by simp; omega⟩
      clear x0 x1 x2 x3 x4 x5 x6 HOK HOK2 HB HR HSZ hb2
      generalize sk.take 20 = sk2 at *
      generalize bs.take 20 = bs2 at *
      go_wp2_with fail
      refine (pass_any N sa sc sk2 (HR2.out.alloc _) HRAN.out.good (HSK.out.1.alloc _) HFAR.out (by have := HSK.out.2; unfold maxLen; omega)).mono ?_
      rintro e w3 ⟨v3, rfl, hv3, hr3, hk3⟩
      have HR3 := Lib.hid hr3
      have HB3 : Hid (Below w.heap.size w w3) := (HB2.out.alloc HZ2.out _).trans (hk3.below HL.out (by simp; exact Nat.le_succ_of_le HZ2.out))
      clear hv3 hr3 hk3 HB2 HR2 HZ2 HSK HFAR
      go_wp2_with fail
      go_roundw
      case rel => exact ⟨k + 1, passSt s N sk2, by omega, by omega, by go_num, HR3.out, HRAN.out.step (by omega) (by decide) (by decide) N sk2, HB3.out, HB3.out.size⟩
      case measure => simp [intOf]; omega
    · have hx : ¬ (k : Int) < (m : Int) ∨ ((k : Int) < (m : Int) ∧ ¬ (k : Int) < 100) := by omega
      clear hlt hk HD HN hl
      have HT := Lib.hid (time_any HR.out)
      rcases hx with hx | ⟨hx, hx2⟩
      all_goals
        go_wp2_with fail
        refine HT.out.mono ?_
        rintro e w' ⟨rfl, rfl⟩
        clear HT
        go_wp2_with fail
        generalize hQ : wr.heap.size = Q
        have HW0 : Hid (Blk (wr.alloc (.cells #[.int .i64 0, .int .i64 0, .int .i64 0, .int .i64 0, .int .i64 0, .int .i64 0] 38)) Q 38 (ivals (wasOf s 1))) := by
          rw [wasOf_one, ← hQ]
          exact Blk.new wr 38 (ivals [0, 0, 0, 0, 0, 0])
        have HQ : Hid (¬ F Q) := fun hF => by have := HR.out.lt _ hF; omega
        have HQ2 : Hid (w.heap.size ≤ Q) := by rw [← hQ]; exact HSZ.out
        have HR2 : Hid (Rep 51 64 (wr.alloc (.cells #[.int .i64 0, .int .i64 0, .int .i64 0, .int .i64 0, .int .i64 0, .int .i64 0] 38)) p s F) := HR.out.alloc _
        have HB2 : Hid (Below w.heap.size w (wr.alloc (.cells #[.int .i64 0, .int .i64 0, .int .i64 0, .int .i64 0, .int .i64 0, .int .i64 0] 38))) := HB.out.alloc HSZ.out _
        clear HR HB HSZ hQ hx
        have HSM := Lib.hid (HRAN.out.small hk1)
        have HSG : Hid (s.good ∧ s.clocks.length = 5) := ⟨HRAN.out.good, HRAN.out.len⟩
        clear HRAN hk1
        generalize wr.alloc (.cells #[.int .i64 0, .int .i64 0, .int .i64 0, .int .i64 0, .int .i64 0, .int .i64 0] 38) = W1 at *
        go_loopw [12] (fun i wr => ∃ k : Nat, 1 ≤ k ∧ k ≤ 6 ∧ i = .int .i64 (k : Int) ∧ Rep 51 64 wr p s F ∧ Below w.heap.size w wr ∧ Blk wr Q 38 (ivals (wasOf s k))) (fun i _ => 6 - (intOf i).toNat)
        case atStart => exact ⟨1, by omega, by omega, rfl, HR2.out, HB2.out, HW0.out⟩
        case round =>
          clear HR2 HB2 HW0
          obtain ⟨k, hk0, hk1, rfl, hr, hb, hx⟩ := hrel
          have HR := Lib.hid hr
          have HB := Lib.hid hb
          have HX := Lib.hid hx
          clear hr hb hx
          by_cases hlt : k < 6
          · have hlt' : (k : Int) ≤ 5 := by omega
            have HC := Lib.hid (clock_any (k : Int) HR.out)
            have HS := Lib.hid (wasOf_set s k)
            have HXS : Hid (Blk (wr.setCell ⟨Q, k, none⟩ (.int .i64 (clockF s (k : Int)))) Q 38 (ivals (wasOf s (k + 1)))) := by
              have := HX.out.set_ k (.int .i64 (clockF s (k : Int)))
              rw [ivals_set, HS.out] at this
              exact this
            have f0 := HX.out.frozen k
            have hQs : wr.heap[Q]? = some (.cells (ivals (wasOf s k)).toArray 38 (0, 0)) := HX.out
            have hcell : ∃ v, wr.cell? ⟨Q, k, none⟩ = some v := by
              rw [HX.out.cell]
              exact ⟨_, ivals_at _ _ (by simp [wasOf]; omega)⟩
            obtain ⟨v0, hcell⟩ := hcell
            clear hQs
            generalize clockF s (k : Int) = z at *
            go_wp2_with fail
            refine HC.out.mono ?_
            rintro e w' ⟨rfl, rfl⟩
            go_wp2_with fail
            have HR4 : Hid (Rep 51 64 (wr.setCell ⟨Q, k, none⟩ (.int .i64 z)) p s F) := HR.out.kept (G := fun j => j = Q) (Kept.set (F := fun j => j = Q) (p := ⟨Q, k, none⟩) (Kept.refl (fun j => j = Q) wr) (.inl rfl) _) (fun j hj e => HQ.out (e ▸ hj))
            have HB4 : Hid (Below w.heap.size w (wr.setCell ⟨Q, k, none⟩ (.int .i64 z))) := Below.setCell (p := ⟨Q, k, none⟩) HB.out HQ2.out _
            go_roundw
            case rel => exact ⟨k + 1, by omega, by omega, by go_num, HR4.out, HB4.out, HXS.out⟩
            case measure => simp [intOf]; omega
          · obtain rfl : k = 6 := by omega
            clear hlt hk0 hk1
            go_wp2_with fail
            have HRAN0 : Hid (Ran s s 0) := Ran.refl s HSG.out.1 HSG.out.2
            go_loopw [13] (fun i wr => InvB w.heap.size w p F s m2 Q (ivals (wasOf s 6)) i wr) (fun i _ => 100 - (intOf i).toNat)
            case atStart => exact ⟨0, s, by omega, by omega, rfl, HR.out, HRAN0.out, HB.out, HB.out.size, HX.out⟩
            case round =>
              clear HR HB HX
              obtain ⟨k, s1, hk, hk1, rfl, hr, hran, hb, hsz, hx⟩ := hrel
              have HR := Lib.hid hr
              have HRAN := Lib.hid hran
              have HB := Lib.hid hb
              have HX := Lib.hid hx
              have HSZ : Hid (w.heap.size ≤ wr.heap.size) := hsz
              clear hr hran hb hsz hx
              by_cases hlt : k < m2 ∧ k < 100
              · obtain ⟨hkn, hk100⟩ := hlt
                have hkn' : (k : Int) < (m2 : Int) := by omega
                have hk100' : (k : Int) < 100 := by omega
                obtain ⟨b, off, rfl, hbl, hc, hok⟩ := HD2.out.at_ k (by rw [HN2.out]; exact hkn)
                generalize (l2[k]'(by rw [HN2.out]; exact hkn)) = d at hc hok
                have HOK := Lib.hid (hok.below HB.out)
                have hc' : ∀ j v, d.cells[j]? = some v → wr.cell? ⟨b, off + k * 7 + j, none⟩ = some v := fun j v hv => (World.cell?_of_block (w := w) (a := ⟨b, off + k * 7 + j, none⟩) (HB.out.block b hbl)).trans (hc j v hv)
                obtain ⟨kind, N, to, place, sa, sk, sc, da, bs, dc, stays⟩ := d
                have HFAR : Hid (∀ a, sa = some a → sk.take 20 ≠ [] → ¬ F a.block) := fun a ha hne hF => by
                  have h1 := hok.rs.lt_of (fun e => hne (by cases sk with | nil => rfl | cons x y => simp [ivals] at e)) a ha
                  have h2 := HL.out _ hF
                  omega
                have x0 := hc' 0 _ rfl
                have x1 := hc' 1 _ rfl
                have x2 := hc' 2 _ rfl
                have x3 := hc' 3 _ rfl
                have x4 := hc' 4 _ rfl
                have x5 := hc' 5 _ rfl
                have x6 := hc' 6 _ rfl
                rw [Nat.add_zero] at x0
                clear hc hok hc' hbl
                go_wp2_with fail
                refine (cut_any ⟨kind, N, to, place, sa, sk, sc, da, bs, dc, stays⟩ wr HOK.out).mono ?_
                rintro e w2 ⟨rfl, hb2⟩
                have HOK2 : Hid (Dd.ok w2 (Dd.cut ⟨kind, N, to, place, sa, sk, sc, da, bs, dc, stays⟩)) := HOK.out.cut.below hb2
                have HB2 : Hid (Below w.heap.size w w2) := HB.out.trans (hb2.mono HSZ.out)
                have HR2 : Hid (Rep 51 64 w2 p s1 F) := HR.out.below hb2
                have HX2 : Hid (Blk w2 Q 38 (ivals (wasOf s 6))) := HX.out.below hb2 HX.out.lt
                have HZ2 : Hid (w.heap.size ≤ w2.heap.size) := HB2.out.size
                rw [show (Dd.cut ⟨kind, N, to, place, sa, sk, sc, da, bs, dc, stays⟩).cells.toArray = #[.int .i64 kind, .int .i64 N, .int .i64 to, .int .i64 place, .slice sa (sk.take 20).length sc, .slice da (bs.take 20).length dc, .bool stays] from rfl]
                have HSK : Hid (Rd w2 sa (ivals (sk.take 20)) ∧ (sk.take 20).length ≤ 20) := ⟨HOK2.out.rs, by simp; omega⟩
                clear x0 x1 x2 x3 x4 x5 x6 HOK HOK2 HB HR HSZ hb2 HX
                generalize sk.take 20 = sk2 at *
                generalize bs.take 20 = bs2 at *
                go_wp2_with fail
                refine (pass_any N sa sc sk2 (HR2.out.alloc _) HRAN.out.good (HSK.out.1.alloc _) HFAR.out (by have := HSK.out.2; unfold maxLen; omega)).mono ?_
                rintro e w3 ⟨v3, rfl, hv3, hr3, hk3⟩
                have HR3 := Lib.hid hr3
                have HX3 : Hid (Blk w3 Q 38 (ivals (wasOf s 6))) := (hk3.block (by have := HX2.out.lt; simp; omega) HQ.out).trans (HX2.out.alloc _)
                have HB3 : Hid (Below w.heap.size w w3) := (HB2.out.alloc HZ2.out _).trans (hk3.below HL.out (by simp; exact Nat.le_succ_of_le HZ2.out))
                clear hv3 hr3 hk3 HB2 HR2 HZ2 HSK HFAR HX2
                go_wp2_with fail
                go_roundw
                case rel =>
                  refine ⟨_, _, _, _, _, _, _, _, _, _, _, _, _, _, _, _, _, _, _, _, _, _, _, ?_, rfl⟩
                  exact ⟨k + 1, passSt s1 N sk2, by omega, by omega, by go_num, HR3.out, HRAN.out.step (by omega) HSM.out.1 HSM.out.2 N sk2, HB3.out, HB3.out.size, HX3.out⟩
                case measure => simp [intOf]; omega
              · have hx : ¬ (k : Int) < (m2 : Int) ∨ ((k : Int) < (m2 : Int) ∧ ¬ (k : Int) < 100) := by omega
                clear hlt hk HD2 HN2 hl2
                have HT := Lib.hid (time_any HR.out)
                have HF : Hid (∀ d : Nat, 1 ≤ d → d ≤ 5 → 0 ≤ clockF s (d : Int) ∧ clockF s (d : Int) ≤ 7200 ∧ clockF s (d : Int) ≤ clockF s1 (d : Int) ∧ clockF s1 (d : Int) ≤ 14400 ∧ 8 * (clockF s1 (d : Int) - clockF s (d : Int)) ≤ 9 * (s1.time - s.time) ∧ 7 * (s1.time - s.time) ≤ 8 * (clockF s1 (d : Int) - clockF s (d : Int))) := fun d h1 h5 => by
                  rw [clockF_at s HSG.out.2 d h1 h5, clockF_at s1 HRAN.out.len d h1 h5]
                  have a := HRAN.out.c0 (d - 1) (by omega)
                  have b := HRAN.out.c1 (d - 1) (by omega)
                  have c := HRAN.out.c2 (d - 1) (by omega)
                  have e := HSM.out.2 (d - 1) (by omega)
                  have t := HRAN.out.t1
                  omega
                have HP : Hid (s1.time - s.time ≤ 6400 ∧ 0 ≤ s1.time - s.time) := ⟨by have := HRAN.out.t1; omega, by have := HRAN.out.t0; omega⟩
                have hti := HSM.out.1
                obtain ⟨hti0, hti1⟩ := hti
                have hp0 := HP.out.1
                have hp1 := HP.out.2
                rcases hx with hx | ⟨hx, hx2⟩
                all_goals
                  go_wp2_with fail
                  refine HT.out.mono ?_
                  rintro e w' ⟨rfl, rfl⟩
                  clear HT
                  go_wp2_with fail
                  have HXB := Lib.hid (rbound_any n)
                  have HBL := Lib.hid (bound_le n)
                  clear hp0 hp1 hti0 hti1 hk1
                  generalize s1.time - s.time = P at *
                  generalize boundF n = Bn at *
                  go_loopw [16] (fun i wr => ∃ k : Nat, 1 ≤ k ∧ k ≤ 6 ∧ i = .int .i64 (k : Int) ∧ Rep 51 64 wr p s1 F ∧ Below w.heap.size w wr ∧ Blk wr Q 38 (ivals (wasOf s 6))) (fun i _ => 6 - (intOf i).toNat)
                  case atStart => exact ⟨1, by omega, by omega, rfl, HR.out, HB.out, HX.out⟩
                  case round =>
                    clear HR HB HX HSZ
                    obtain ⟨k, hk0, hk1, rfl, hr, hb, hx⟩ := hrel
                    have HR := Lib.hid hr
                    have HB := Lib.hid hb
                    have HX := Lib.hid hx
                    clear hr hb hx
                    by_cases hlt : k < 6
                    · have hlt' : (k : Int) ≤ 5 := by omega
                      have hlt6 : (k : Int) < 6 := by omega
                      have HC := Lib.hid (clock_any (k : Int) HR.out.drewC)
                      have hcell : wr.cell? ⟨Q, k, none⟩ = some (.int .i64 (clockF s (k : Int))) := by
                        rw [HX.out.cell]
                        have := wasOf_at s k hlt
                        simp [ivals, this]
                      obtain ⟨f0, f1, f2, f3, f4, f5⟩ := HF.out k hk0 (by omega)
                      have HBB : Hid (Bn ≤ P → ¬ clockF s1 (k : Int) - clockF s (k : Int) < n) := fun h hc => by
                        have := HBL.out P _ h HP.out.1 f5
                        omega
                      have HB5 := Lib.hid (HXB.out wr.drew)
                      clear HF
                      generalize clockF s (k : Int) = z at *
                      generalize clockF s1 (k : Int) = g at *
                      have hp0 := HP.out.1
                      have hp1 := HP.out.2
                      go_wp2_with fail
                      refine still_lit (by kernel_rfl) (by kernel_rfl) ?_
                      repeat (first | still_step | still_call (HC.out.mono fun e w' ⟨h1, h2⟩ => ⟨h1, h2.symm⟩))
                      refine wpStill_nil ?_
                      clear HC
                      by_cases hBP : Bn ≤ P
                      · have hng := HBB.out hBP
                        go_wp2_with fail
                        refine HB5.out.mono ?_
                        rintro e w' ⟨rfl, hw⟩
                        obtain rfl := hw.symm
                        clear HB5 HBB
                        go_wp2_with fail
                        go_roundw
                        case rel => exact ⟨k + 1, by omega, by omega, by go_num, HR.out.drewC, ⟨HB.out.os, HB.out.tape, HB.out.output, HB.out.size, HB.out.block⟩, HX.out⟩
                        case measure => simp [intOf]; omega
                      · go_wp2_with fail
                        refine HB5.out.mono ?_
                        rintro e w' ⟨rfl, hw⟩
                        obtain rfl := hw.symm
                        clear HB5 HBB
                        go_wp2_with fail
                        go_roundw
                        case rel => exact ⟨k + 1, by omega, by omega, by go_num, HR.out.drewC, ⟨HB.out.os, HB.out.tape, HB.out.output, HB.out.size, HB.out.block⟩, HX.out⟩
                        case measure => simp [intOf]; omega
                    · obtain rfl : k = 6 := by omega
                      clear hlt hk0 hk1
                      go_wp2_with fail
                      refine (lives_any wr).mono ?_
                      rintro e w9 ⟨rfl, hb9⟩
                      have HB9 : Hid (Below w.heap.size w w9) := HB.out.trans (hb9.mono HB.out.size)
                      clear hb9 HR HB HX
                      go_wp2_with fail
                      go_ret
                      exact ⟨rfl, HB9.out⟩
end Go.Proofs.Ytpljopocnlllcaa
