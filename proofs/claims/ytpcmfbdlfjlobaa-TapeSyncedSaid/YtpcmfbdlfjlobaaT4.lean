/- does: units are done, and a fuse burns. -/
import Derived.Test.YtpcmfbdlfjlobaaT2b
import Derived.Test.YtpcmfbdlfjlobaaT3
namespace Go.Proofs.Ytpcmfbdlfjlobaa
open Go.RowKit
set_option linter.unusedVariables false
attribute [local go_sem ↓] Go.wp_at_zero Go.wp_at_succ
theorem done_any (u : Un) (v0 v1 : Value) (s : Sd) (w : World) (h : Pr w v0 v1 s) (hs : s.ok) (hc : cutok s u) : Calls Try.prog 36 #[.agg #[v0, v1], .agg u.cells.toArray] w (Doned v0 v1 (stepS s u) w) := by
  obtain ⟨o, cut, b⟩ := u
  cases cut with
  | none => exact done_add o b v0 v1 s w h hs
  | some k => exact done_cut o k b v0 v1 s w h (hc k rfl) hs
theorem turn_step {w w5 : World} {p : Nat} {sf nw nw' : Sd} {us : List Un} {bu : Bool} {L : Int} {F : Nat → Prop} {s0 s1 n0 n1 uv : Value} {n0' n1' : Value} (h : TpW w p sf nw us bu L F s0 s1 n0 n1 uv) (hk : Kept (blk n0 n1) w w5) (hp : Blk w5 p 55 [s0, s1, n0, n1, uv, .bool bu, .int .i64 L]) (hn : Pr w5 n0' n1' nw') (hg : Grew (blk n0 n1) (blk n0' n1') w) {nw2 : Sd} (he : nw2 = nw') :
    TpW ((w5.setCell ⟨p, 2, none⟩ n0').setCell ⟨p, 3, none⟩ n1') p sf nw2 us bu L (fun b => F b ∨ blk n0' n1' b) s0 s1 n0' n1' uv := by
  subst he
  have hne : ∀ b, blk n0' n1' b → b ≠ p := fun b hb e => by
    subst e
    rcases hg _ hb with h1 | h1
    · exact h.dp.2.1 h1
    · have := h.lt _ h.fpp; omega
  refine h.turn (((hk.mono fun b hb => .inr hb).set (p := ⟨p, 2, none⟩) (.inl (.inl rfl)) _).set (p := ⟨p, 3, none⟩) (.inl (.inl rfl)) _) ((hp.set_ 2 _).set_ 3 _) (hn.keep fun b hb => ?_) hg
  exact (Below.heap_setCell _ _ _ b (by simpa using hne b hb)).trans (Below.heap_setCell _ _ _ b (by simpa using hne b hb))
def InvD (w : World) (p : Nat) (s : TSt) (L : Int) (F : Nat → Prop) (s0 s1 uv : Value) (l : List Un) (i : Value) (wr : World) : Prop := ∃ (k : Nat) (A0 : Option Addr) (m0 c0 : Nat) (A1 : Option Addr) (m1 c1 : Nat) (F' : Nat → Prop), k ≤ l.length ∧ i = .int .i64 (k : Int) ∧ TpW wr p s.safe (runS s.now (l.take k)) s.us s.burns L F' s0 s1 (.slice A0 m0 c0) (.slice A1 m1 c1) uv ∧ Kept F w wr ∧ Grew F F' w
set_option maxRecDepth 100000 in
set_option maxHeartbeats 8000000 in
theorem does_any {w : World} {p : Nat} {s : TSt} {F : Nat → Prop} (A : Option Addr) (c : Nat) (l : List Un) (h : Tp w p s F) (hg : s.good) (hr : Rd w A (ucells l)) (hok : okUs s.now l) (hA : ∀ a, A = some a → ¬ F a.block ∧ a.block < w.heap.size) (hl : l.length ≤ 1000000) (hl2 : s.us.length ≤ 1000000) (hleft : s.burns = true → s.left ≠ 0) :
    Calls Try.prog 33 #[.pointer (some ⟨p, 0, none⟩), .slice A l.length c] w (Did (fun w' => Tp w' p (s.did l)) F (.returned (.int .i64 0)) w) := by
  obtain ⟨s0, s1, n0, n1, uv, L, h, hL⟩ := h
  have HOK := Lib.hid hok
  have HR := Lib.hid hr
  have HA := Lib.hid hA
  have HG := Lib.hid hg
  obtain ⟨L', hL'⟩ : ∃ L', IntKind.i64.wrap (L - 1) = L' := ⟨_, rfl⟩
  have HL : Hid (s.burns = true → L' = s.left - 1) := fun hb => by
    rw [← hL', hL hb]
    have h1 := hg.l0 hb
    have h2 := hleft hb
    exact IntWalk.i64_in _ (by omega)
  have x6 : w.cell? ⟨p, 6, none⟩ = some (.int .i64 L) := h.ptr.cell 6
  have f6 := h.ptr.frozen 6
  have HT0 : Hid (TpW (w.setCell ⟨p, 6, none⟩ (.int .i64 L')) p s.safe s.now s.us s.burns L' F s0 s1 n0 n1 uv) := h.fuse ((Kept.refl (fun b => b = p) w).set (p := ⟨p, 6, none⟩) (.inl rfl) _) (h.ptr.set_ 6 _)
  have HK0 : Hid (Kept F w (w.setCell ⟨p, 6, none⟩ (.int .i64 L'))) := (Kept.refl F w).set (p := ⟨p, 6, none⟩) (.inl h.fpp) _
  obtain ⟨A0, c0, hn0, _, _⟩ := h.now.o0.slice
  obtain ⟨A1, c1, hn1, _, _⟩ := h.now.o1.slice
  obtain ⟨AU, cU, hu, _, hcU⟩ := h.us.slice
  subst hn0 hn1 hu
  clear h hL hok hr hA hg hleft
  generalize hm : l.length = m at *
  have HM := Lib.hid hm
  clear hm
  go_enter Try.func33, Try.ntmps33
  go_wp2_with fail
  generalize hW : w.setCell ⟨p, 6, none⟩ (.int .i64 L') = W at *
  clear hW x6 f6
  go_loopw [6, 16] (fun _ i wr => InvD w p s L' F s0 s1 (.slice AU s.us.length cU) l i wr) (fun _ i _ => m - (intOf i).toNat)
  case atStart => exact ⟨0, A0, _, c0, A1, _, c1, F, by omega, rfl, HT0.out, HK0.out, Grew.refl _ _⟩
  case round =>
    clear HT0 HK0
    obtain ⟨k, A0, m0, c0, A1, m1, c1, F', hk, rfl, ht, hk2, hgr⟩ := hrel
    rw [HM.out] at hk
    have HT := Lib.hid ht
    have HK := Lib.hid hk2
    have HGR := Lib.hid hgr
    clear ht hk2 hgr
    by_cases hlt : k < m
    · have hkl : k < l.length := by rw [HM.out]; exact hlt
      have hlt' : (k : Int) < (m : Int) := by omega
      have hrd : Rd wr A (ucells l) := HR.out.kept HK.out fun a ha => (HA.out a ha).1
      obtain ⟨b, off, hAe, hbl, hc⟩ := hrd.at (j := k * 3) (by rw [ucells_length]; omega)
      subst hAe
      obtain ⟨u, hu⟩ : ∃ u, l[k] = u := ⟨_, rfl⟩
      obtain ⟨d0, d1, d2, hcells⟩ : ∃ d0 d1 d2, u.cells = [.int .i64 d0, .int .i64 d1, .int .u8 d2] := ⟨_, _, _, rfl⟩
      have e0 := hc _ _ (ucells_at l k hkl 0 (.int .i64 d0) (by rw [hu, hcells]; rfl))
      have e1 := hc _ _ (ucells_at l k hkl 1 (.int .i64 d1) (by rw [hu, hcells]; rfl))
      have e2 := hc _ _ (ucells_at l k hkl 2 (.int .u8 d2) (by rw [hu, hcells]; rfl))
      rw [← Nat.add_assoc] at e0 e1 e2
      rw [Nat.add_zero] at e0
      have HST : Hid (runS s.now (l.take (k + 1)) = stepS (runS s.now (l.take k)) u) := by
        have := runS_take_succ s.now l k hkl
        rw [hu] at this
        exact this
      have hat := okUs_at HOK.out k hkl
      rw [hu] at hat
      have HAT := Lib.hid hat
      have x2 : wr.cell? ⟨p, 2, none⟩ = some (.slice A0 m0 c0) := HT.out.ptr.cell 2
      have x3 : wr.cell? ⟨p, 3, none⟩ = some (.slice A1 m1 c1) := HT.out.ptr.cell 3
      have a2 : ∀ o, (wr.alloc o).cell? ⟨p, 2, none⟩ = some (.slice A0 m0 c0) := fun o => (HT.out.ptr.alloc o).cell 2
      have a3 : ∀ o, (wr.alloc o).cell? ⟨p, 3, none⟩ = some (.slice A1 m1 c1) := fun o => (HT.out.ptr.alloc o).cell 3
      have HDN : Hid (∀ o, Calls Try.prog 36 #[.agg #[.slice A0 m0 c0, .slice A1 m1 c1], .agg u.cells.toArray] (wr.alloc o).drew (Doned (.slice A0 m0 c0) (.slice A1 m1 c1) (stepS (runS s.now (l.take k)) u) (wr.alloc o).drew)) := fun o =>
        done_any u _ _ _ _ (HT.out.now.keep fun b hb => Below.heap_alloc wr o b (HT.out.now.lt b hb)) HAT.out.1 HAT.out.2
      rw [hcells] at HDN
      clear hc hrd hu hat hcells
      go_wp2_with fail
      go_region_law ((go_simp; go_at_call 36; refine (HDN.out _).mono ?_; rintro e w5 ⟨v0', v1', rfl, pr5, k5, g5⟩; obtain ⟨B0, e0', hB0, _, _⟩ := pr5.o0.slice; obtain ⟨B1, e1', hB1, _, _⟩ := pr5.o1.slice; subst hB0 hB1; have hp5 : Blk w5 p 55 [s0, s1, .slice A0 m0 c0, .slice A1 m1 c1, .slice AU s.us.length cU, .bool s.burns, .int .i64 L'] := (k5.block (by simp; exact Nat.lt_succ_of_lt (HT.out.lt p HT.out.fpp)) HT.out.dp.2.1).trans ((HT.out.ptr.alloc _).drew); have y2 : w5.cell? ⟨p, 2, none⟩ = some (.slice A0 m0 c0) := hp5.cell 2; have y3 : w5.cell? ⟨p, 3, none⟩ = some (.slice A1 m1 c1) := hp5.cell 3; have g2 := hp5.frozen 2; have g3 := hp5.frozen 3; have HP5 := Lib.hid hp5; have HPR5 := Lib.hid pr5; have HKK5 := Lib.hid k5; have HGG5 := Lib.hid g5; clear hp5 pr5 k5 g5))
      all_goals
        have HK6 : Hid (Kept (blk (.slice A0 m0 c0) (.slice A1 m1 c1)) wr w5) := ((Kept.refl (blk (.slice A0 m0 c0) (.slice A1 m1 c1)) wr).alloc _).drew.trans (Grew.refl _ _) HKK5.out
        have HG6 : Hid (Grew (blk (.slice A0 m0 c0) (.slice A1 m1 c1)) (blk (.slice B0 (stepS (runS s.now (l.take k)) u).a.length e0') (.slice B1 (stepS (runS s.now (l.take k)) u).b.length e1')) wr) := fun b hb => by
          rcases HGG5.out b hb with e | e
          · exact .inl e
          · simp at e; exact .inr (by omega)
        have HTT := Lib.hid (turn_step HT.out HK6.out HP5.out HPR5.out HG6.out HST.out)
        have HKT : Hid (Kept F w ((w5.setCell ⟨p, 2, none⟩ (.slice B0 (stepS (runS s.now (l.take k)) u).a.length e0')).setCell ⟨p, 3, none⟩ (.slice B1 (stepS (runS s.now (l.take k)) u).b.length e1'))) := by
          have h1 : Kept F' wr w5 := HK6.out.mono HT.out.fpn
          exact HK.out.trans HGR.out ((h1.set (p := ⟨p, 2, none⟩) (.inl HT.out.fpp) _).set (p := ⟨p, 3, none⟩) (.inl HT.out.fpp) _)
        have HGT : Hid (Grew F (fun b => F' b ∨ blk (.slice B0 (stepS (runS s.now (l.take k)) u).a.length e0') (.slice B1 (stepS (runS s.now (l.take k)) u).b.length e1') b) w) := fun b hb => by
          rcases hb with hb | hb
          · exact HGR.out b hb
          · rcases HG6.out b hb with e | e
            · exact HGR.out b (HT.out.fpn b e)
            · exact .inr (Nat.le_trans HK.out.size e)
        clear HP5 HPR5 HKK5 HGG5 HK6 HG6 HT HK HGR y2 y3 g2 g3 x2 x3 a2 a3 e0 e1 e2 HDN HAT
        go_wp2_with fail
        go_roundw
        case rel => exact ⟨k + 1, B0, _, e0', B1, _, e1', _, by rw [HM.out]; omega, by go_num, HTT.out, HKT.out, HGT.out⟩
        case measure => simp [intOf]; omega
    · obtain rfl : k = m := by omega
      have hmm : l.take k = l := List.take_of_length_le (by rw [HM.out]; exact Nat.le_refl _)
      have HT1 : Hid (TpW wr p s.safe (runS s.now l) s.us s.burns L' F' s0 s1 (.slice A0 m0 c0) (.slice A1 m1 c1) (.slice AU s.us.length cU)) := by
        have := HT.out
        rw [hmm] at this
        exact this
      have HRD : Hid (Rd wr A (ucells l)) := HR.out.kept HK.out fun a ha => (HA.out a ha).1
      have x4 : wr.cell? ⟨p, 4, none⟩ = some (.slice AU s.us.length cU) := HT1.out.ptr.cell 4
      clear HT hmm HOK HR HA
      go_wp2_with (at_builtin; obtain ⟨v5, w5, hrun5, own5, grow5, at5⟩ := g_app unE 53 HT1.out.us (A := A) (news := ucells l) k c HRD.out (by rw [ucells_length, HM.out]) (ucells_one l) (by omega) (by unfold maxLen; omega); obtain ⟨A5, c5, hv5, hc5, hm5⟩ := own5.slice; subst hv5; have hp5 : Blk w5 p 55 [s0, s1, .slice A0 m0 c0, .slice A1 m1 c1, .slice AU s.us.length cU, .bool s.burns, .int .i64 L'] := HT1.out.ptr.grown grow5 (fun e => HT1.out.dp.2.2 e.symm); have y4 : w5.cell? ⟨p, 4, none⟩ = some (.slice AU s.us.length cU) := hp5.cell 4; have g4 := hp5.frozen 4; have HP5 := Lib.hid hp5; refine wpl_append rfl (.tmp 34) (.tmp 35) 53 53 rfl _ _ rfl rfl hrun5 ?_; clear hrun5 hp5)
      have HFIN : Hid (Did (fun w' => Tp w' p (s.did l)) F (.returned (.int .i64 0)) w (.returned (.int .i64 0)) (w5.setCell ⟨p, 4, none⟩ (.slice A5 (s.us.length + k) c5))) := by
        have hkk : Kept (fun b => b = p ∨ (Value.slice AU s.us.length cU).ownBlock = some b) wr (w5.setCell ⟨p, 4, none⟩ (.slice A5 (s.us.length + k) c5)) := (((Kept.refl (fun b => b = p ∨ (Value.slice AU s.us.length cU).ownBlock = some b) wr).grown grow5 (fun b hb => .inl (.inr hb)))).set (p := ⟨p, 4, none⟩) (.inl (.inl rfl)) _
        have hlen : (s.us ++ l).length = s.us.length + k := by rw [List.length_append, HM.out]
        have own6 : GOwn (w5.setCell ⟨p, 4, none⟩ (.slice A5 (s.us.length + k) c5)) 61 3 (.slice A5 (s.us.length + k) c5) (s.us ++ l).length (ucells (s.us ++ l)) := by
          rw [hlen, ucells_append]
          refine own5.keep fun b hb => Below.heap_setCell _ _ _ b (fun e => ?_)
          simp only at e
          subst e
          rcases at5 _ hb with e | e
          · exact HT1.out.dp.2.2 e
          · have := HT1.out.lt _ HT1.out.fpp; omega
        have hp6 : Blk (w5.setCell ⟨p, 4, none⟩ (.slice A5 (s.us.length + k) c5)) p 55 [s0, s1, .slice A0 m0 c0, .slice A1 m1 c1, .slice A5 (s.us.length + k) c5, .bool s.burns, .int .i64 L'] := HP5.out.set_ 4 _
        have ht := HT1.out
        have ht6 := ht.units hkk hp6 own6 at5
        have ht7 : TpW (w5.setCell ⟨p, 4, none⟩ (.slice A5 (s.us.length + k) c5)) p (s.did l).safe (s.did l).now (s.did l).us (s.did l).burns L' (fun b => F' b ∨ (Value.slice A5 (s.us.length + k) c5).ownBlock = some b) s0 s1 (.slice A0 m0 c0) (.slice A1 m1 c1) (.slice A5 (s.us.length + k) c5) := by
          rw [TSt.did_now]
          exact ht6
        refine ⟨rfl, _, ⟨_, _, _, _, _, _, ht7, HL.out⟩, HK.out.trans HGR.out (hkk.mono fun b hb => hb.elim (fun e => e ▸ ht.fpp) (fun e => ht.fpu b e)), fun b hb => ?_⟩
        · rcases hb with hb | hb
          · exact HGR.out b hb
          · rcases at5 b hb with e | e
            · exact HGR.out b (ht.fpu b e)
            · exact .inr (Nat.le_trans HK.out.size e)
      clear own5 grow5 at5 HP5 HT1 HK HGR HRD
      go_wp2_with fail
      go_ret
      exact HFIN.out
end Go.Proofs.Ytpcmfbdlfjlobaa
