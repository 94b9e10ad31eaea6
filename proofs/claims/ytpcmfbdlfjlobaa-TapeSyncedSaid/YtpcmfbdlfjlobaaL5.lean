/- The walk of TapeSynced: what was synced is there behind every crash, and what was written since up to some byte. -/
import Derived.Test.YtpcmfbdlfjlobaaSY
import Derived.Deep.CutBlock
import Derived.Deep.DeepCutAuto
namespace Go.Proofs.Ytpcmfbdlfjlobaa
open Go.RowKit
set_option linter.unusedVariables false
attribute [local go_sem ↓] Go.wp_at_zero Go.wp_at_succ
theorem Two.go2 {w0 w : World} {p q : Nat} {s t : TSt} {F G : Nat → Prop} (h : Two w0.heap.size w p q s t F G) (hb : Below w0.heap.size w0 w) : Go2 w0 w p s none [] := ⟨F, h.rp, hb, h.loF, Rd.nil _ _, fun a ha => by cases ha⟩
theorem SyW.start {w w4 : World} {p : Nat} {s : TSt} (h : Go2 w w4 p s none []) : SyW w ((w4.alloc (.cells #[.slice none 0 0, .slice none 0 0] 44)).alloc (.cells #[.slice none 0 0, .slice none 0 0] 44)) p s w4.heap.size (w4.heap.size + 1) ⟨[], []⟩ ⟨[], []⟩ := by
  obtain ⟨F, ht, hb, hl, _, _⟩ := h
  have hz := hb.size
  have nb : ∀ b, ¬ blk (.slice none 0 0) (.slice none 0 0) b := fun b hb => by simp [blk, Value.ownBlock] at hb
  exact ⟨F, none, 0, none, 0, _, _, (ht.below ((Below.refl _ _).alloc (Nat.le_refl _) _)).below ((Below.refl _ _).alloc (Nat.le_refl _) _), (hb.alloc hz _).alloc (by simp; omega) _, (Blk.new w4 44 _).alloc _, Blk.new2 w4 _ _ 44, Pr.nil _,
    ⟨hl, fun hF => by have := ht.lt _ hF; omega, fun hF => by have := ht.lt _ hF; omega, fun b hb => (nb b hb).elim, by omega, hz, by omega⟩⟩
def InvL2 (w : World) (p : Nat) (s1 : TSt) (Qw Qa : Nat) (i : Value) (wr : World) : Prop := ∃ sd : Sd, ((i = .int .i64 0 ∧ sd = ⟨[], []⟩) ∨ (i = .int .i64 1 ∧ sd = ⟨s1.now.a, []⟩) ∨ (i = .int .i64 2 ∧ sd = s1.now)) ∧ SyW w wr p s1 Qw Qa sd sd
def InvL3 (w : World) (p : Nat) (s1 : TSt) (Qw Qa m : Nat) (i : Value) (wr : World) : Prop := ∃ (k : Nat) (s : TSt), k ≤ m ∧ k ≤ 15 ∧ i = .int .i64 (k : Int) ∧ SyW w wr p s Qw Qa s1.now s.now ∧ s.good ∧ s.safe = s1.now ∧ (∀ u ∈ s.us, u.cut = none) ∧ s.us.length ≤ 60 * k
def InvL4 (w : World) (p : Nat) (s : TSt) (Qw Qa : Nat) (lw al : Sd) (i : Value) (wr : World) : Prop := (i = .int .i64 0 ∨ i = .int .i64 1 ∨ i = .int .i64 2) ∧ SyW w wr p s Qw Qa lw al
theorem few_any' (A : Option Addr) (c : Nat) (bs : List UInt8) (w : World) (hl : bs.length ≤ c) (hm : c ≤ maxLen) : Calls Try.prog 20 #[.slice A bs.length c] w fun e w' => e = .returned (.slice A (bs.take 60).length c) ∧ w = w' := by
  have HL : Hid ((bs.take 60).length = min 60 bs.length) := List.length_take
  unfold maxLen at hm
  generalize bs.length = n at *
  by_cases h1 : 60 < n
  · have f1 : (60 : Int) ≤ (c : Int) := by omega
    have HL2 : Hid ((bs.take 60).length = 60) := by have := HL.out; unfold Hid; omega
    clear HL
    go_enter Try.func20, Try.ntmps20
    go_wp2
    go_ret
    exact ⟨by rw [HL2.out] <;> rfl, rfl⟩
  · have HL2 : Hid ((bs.take 60).length = n) := by have := HL.out; unfold Hid; omega
    clear HL
    go_enter Try.func20, Try.ntmps20
    go_wp2
    go_ret
    exact ⟨by rw [HL2.out] <;> rfl, rfl⟩
theorem few_all (A : Option Addr) (c : Nat) (bs : List UInt8) (hl : bs.length ≤ c) (hm : c ≤ maxLen) : Hid (∀ wx, Calls Try.prog 20 #[.slice A bs.length c] wx fun e w' => e = .returned (.slice A (bs.take 60).length c) ∧ wx = w') := fun wx => by
  exact few_any' A c bs wx hl hm
theorem deed_at2 {w wr : World} {A : Option Addr} {l : List Dd} {k : Nat} (hd : DeedsAt w A l) (hk : k < l.length) (hb : Below w.heap.size w wr) :
    ∃ (d : Dd) (b off : Nat), A = some ⟨b, off, none⟩ ∧ b < w.heap.size ∧ d.ok w ∧ (∀ j v, d.cells[j]? = some v → w.cell? ⟨b, off + k * 4 + j, none⟩ = some v) := by
  obtain ⟨b, off, rfl, hbl, hc, hok⟩ := hd.at_ k hk
  exact ⟨l[k], b, off, rfl, hbl, hok, hc⟩
set_option maxRecDepth 100000 in
set_option maxHeartbeats 32000000 in
theorem synced_any (A : Option Addr) (c : Nat) (l : List Dd) (A2 : Option Addr) (c2 : Nat) (l2 : List Dd) (n : Int) (w : World) (h : DeedsAt w A l) (h2 : DeedsAt w A2 l2) (hn0 : -9223372036854775808 ≤ n) (hn1 : n ≤ 9223372036854775807) (hl : l.length ≤ maxLen) (hl2 : l2.length ≤ maxLen) :
    Calls Try.prog 5 #[.slice A l.length c, .slice A2 l2.length c2, .int .i64 n] w (Lived w) := by
  unfold maxLen at hl2
  generalize hn2 : l2.length = m2 at hl2 ⊢
  have HN2 := Lib.hid hn2
  have HD2 := Lib.hid h2
  have HNN : Hid (-9223372036854775808 ≤ n ∧ n ≤ 9223372036854775807) := ⟨hn0, hn1⟩
  clear hn2 h2 hn0 hn1
  unfold maxLen at hl
  generalize hn : l.length = m at hl ⊢
  have HN := Lib.hid hn
  have HD := Lib.hid h
  clear hn h
  go_enter Try.func5, Try.ntmps5
  go_wp2_with fail
  refine (new_any w).mono ?_
  rintro e w1 ⟨p, F, rfl, hr1, hlo1, hb1⟩
  have HR1 := Lib.hid hr1
  have HK1 := Lib.hid hb1
  have HL1 := Lib.hid hlo1
  clear hr1 hb1 hlo1
  go_wp2_with fail
  refine (rnew_any w1).mono ?_
  rintro e w2 ⟨q, G, rfl, hr2, hlo2, hb2⟩
  have HT2 : Hid (Two w.heap.size w2 p q t0 t0 F G) := two_new HR1.out HL1.out HK1.out hr2 hlo2 hb2
  have HB2 : Hid (Below w.heap.size w w2) := HK1.out.trans (hb2.mono HK1.out.size)
  clear hr2 hlo2 hb2 HR1 HK1 HL1
  go_upto_block 0 with fail
  go_cut [9] (fun _ w' => ∃ s F G, Two w.heap.size w' p q s s F G ∧ s.good ∧ s.us.length ≤ 1800 ∧ Below w.heap.size w w')
  case first =>
    go_wp2_with fail
    go_loopw [9] (fun i wr => InvPl w.heap.size w p q m 30 i wr) (fun i _ => 30 - (intOf i).toNat)
    case atStart => exact ⟨0, t0, F, G, by omega, by omega, rfl, HT2.out, t0_good, by simp [t0], HB2.out⟩
    case round =>
      clear HT2 HB2
      obtain ⟨k, s, F, G, hk, hk1, rfl, ht, hg, hus, hb⟩ := hrel
      have HT := Lib.hid ht
      have HG := Lib.hid hg
      have HB := Lib.hid hb
      have HUS : Hid (s.us.length ≤ 60 * k) := hus
      clear ht hg hb hus
      by_cases hlt : k < m ∧ k < 30
      · obtain ⟨hkn, hk100⟩ := hlt
        have hkn' : (k : Int) < (m : Int) := by omega
        have hk100' : (k : Int) < 30 := by omega
        obtain ⟨d, b, off, rfl, hok, hfar, _, hc⟩ := deed_at HD.out (by rw [HN.out]; exact hkn) HB.out rfl HT.out
        have x0 := hc 0 _ rfl
        have x1 := hc 1 _ rfl
        have x2 := hc 2 _ rfl
        have x3 := hc 3 _ rfl
        rw [Nat.add_zero] at x0
        have HDO := Lib.hid (acts_any d HT.out HG.out (by have := HUS.out; omega) hok hfar)
        clear hc hok hfar
        go_wp2_with fail
        refine HDO.out.mono ?_
        rintro e w3 ⟨rfl, ⟨s', F', G', ht', hg', hu', _, _⟩, hb', _⟩
        have HT3 := Lib.hid ht'
        have HG3 := Lib.hid hg'
        have HB3 : Hid (Below w.heap.size w w3) := HB.out.trans hb'
        have HU3 : Hid (s'.us.length ≤ 60 * (k + 1)) := by have := HUS.out; unfold Hid; omega
        clear ht' hg' hb' hu' x0 x1 x2 x3 HT HG HB HDO HUS
        go_wp2_with fail
        go_roundw
        case rel => exact ⟨k + 1, s', F', G', by omega, by omega, by go_num, HT3.out, HG3.out, HU3.out, HB3.out⟩
        case measure => simp [intOf]; omega
      · have hx : ¬ (k : Int) < (m : Int) ∨ ((k : Int) < (m : Int) ∧ ¬ (k : Int) < 30) := by omega
        have HREL : Hid (∃ s F G, Two w.heap.size wr p q s s F G ∧ s.good ∧ s.us.length ≤ 1800 ∧ Below w.heap.size w wr) := ⟨s, F, G, HT.out, HG.out, by have := HUS.out; omega, HB.out⟩
        clear HT HG HUS HB
        rcases hx with hx | ⟨hx, hx2⟩
        all_goals
          go_wp2_with fail
          go_meet
          case rel => exact HREL.out
  case rest =>
      obtain ⟨s, F, G, ht, hg, hus, hb⟩ := hcut
      have HT := Lib.hid ht
      have HG := Lib.hid hg
      have HB := Lib.hid hb
      have HUS : Hid (s.us.length ≤ 1800) := hus
      clear ht hg hus hb
      have H0 := Lib.hid (HT.out.go2 HB.out)
      have HU2 : Hid (s.us.length ≤ 1000000) := by have := HUS.out; unfold Hid; omega
      have hs1 : (synced' s n).good ∧ (synced' s n).us = [] ∧ (synced' s n).now = (synced' s n).safe := synced'_good HG.out n
      have HS1 := Lib.hid hs1
      clear HD HN hl HUS HT HB hs1
      by_cases hq : rdyN s 0 = 0
      · have HSY := H0.out.sync_ HG.out hq
        rw [show s.synced = synced' s n from (if_pos hq).symm] at HSY
        have HSY2 := Lib.hid HSY
        generalize synced' s n = s1 at *
        clear HSY hq
        · go_wp2_with fail
          refine HSY2.out.mono ?_
          rintro e w4 ⟨rfl, h4⟩
          have H4 := Lib.hid h4
          clear h4 HSY2 H0 HG HU2
          go_wp2_with fail
          have HSD := Lib.hid (SyW.start H4.out)
          generalize w4.heap.size + 1 = Qa at *
          generalize w4.heap.size = Qw at *
          generalize (w4.alloc (.cells #[.slice none 0 0, .slice none 0 0] 44)).alloc (.cells #[.slice none 0 0, .slice none 0 0] 44) = W5 at *
          clear H4
          go_loopw [12, 13, 14] (fun i _ _ wr => InvL2 w p s1 Qw Qa i wr) (fun i _ _ _ => 2 - (intOf i).toNat)
          case atStart => exact ⟨_, .inl ⟨rfl, rfl⟩, HSD.out⟩
          case round =>
            clear HSD
            obtain ⟨sd, hcase, hsy⟩ := hrel
            have HSD := Lib.hid hsy
            clear hsy
            rcases hcase with ⟨rfl, rfl⟩ | ⟨rfl, rfl⟩ | ⟨rfl, rfl⟩
            · by_cases hr1 : rdyN s1 0 = 0
              · obtain ⟨F5, X0, c0', X1, c1', v0', v1', t1, t2, t3, t4, t5, t6⟩ := HSD.out
                have HRD := Lib.hid (read_any false t1 HS1.out.1 (by rw [rdy_both]; exact hr1))
                have hzl := HS1.out.1.now false
                have HWZ : Hid (Qw < wr.heap.size) := t3.lt
                clear t1 t2 t3 t4 t5 t6
                go_wp2_with fail
                refine HRD.out.mono ?_
                rintro e w5 ⟨A5, c5, rfl, own5, hg5, hb5⟩
                have HS5 := Lib.hid (HSD.out.below hb5)
                have HO5 := Lib.hid own5
                have HG5 := Lib.hid hg5
                clear own5 hg5 hb5 HRD HSD
                rw [show (s1.now.get false) = s1.now.a from rfl] at *
                obtain ⟨F5, X0, c0', X1, c1', v0', v1', t1, t2, t3, t4, t5, t6⟩ := HS5.out
                have qw : w5.cell? ⟨Qw, 0, none⟩ = some (.slice X0 ((⟨[], []⟩ : Sd) : Sd).a.length c0') := t3.cell 0
                have fw := t3.frozen 0
                clear t1 t2 t3 t4 t5 t6
                have HS6 : Hid (SyW w (w5.setCell ⟨Qw, 0, none⟩ (.slice A5 s1.now.a.length c5)) p s1 Qw Qa (⟨s1.now.a, []⟩ : Sd) (⟨[], []⟩ : Sd)) := HS5.out.setW false A5 s1.now.a c5
                have HR6 : Hid (Rd (w5.setCell ⟨Qw, 0, none⟩ (.slice A5 s1.now.a.length c5)) A5 (bvals s1.now.a)) := HO5.out.rd.at_blocks (by simp) fun a ha _ => Below.heap_setCell _ _ _ _ (by have := (HG5.out a ha).1; have := HWZ.out; simp; omega)
                obtain ⟨F6, Y0, d0', Y1, d1', u0', u1', t1, t2, t3, t4, t5, t6⟩ := HS6.out
                have qa : (w5.setCell ⟨Qw, 0, none⟩ (.slice A5 s1.now.a.length c5)).cell? ⟨Qa, 0, none⟩ = some u0' := t4.cell 0
                have HT1 := Lib.hid t1
                have HT2 := Lib.hid t2
                have HT3 := Lib.hid t3
                have HT4 := Lib.hid t4
                have HT5 := Lib.hid t5
                have HT6 := Lib.hid t6
                clear t1 t2 t3 t4 t5 t6
                go_wp2_with (at_builtin; obtain ⟨v7, w7, hrun7, own7, grow7, at7⟩ := g_app byteE 28 HT5.out.o0 (A := A5) (news := bvals s1.now.a) s1.now.a.length c5 HR6.out (by rw [bvals_length, Nat.mul_one]) (bvals_one _) (by simp; omega) (by simp; unfold maxLen; omega); simp only [List.length_nil, Nat.zero_add, List.nil_append, bvals, List.map_nil] at own7 hrun7; obtain ⟨A7, c7, rfl, _, _⟩ := own7.slice; have hb7 : Blk w7 Qa 44 [u0', u1'] := HT4.out.grown grow7 (fun e => (HT6.out.fv Qa (.inl e.symm)).2.2.1 rfl); have qa7 : w7.cell? ⟨Qa, 0, none⟩ = some u0' := hb7.cell 0; have fa7 := hb7.frozen 0; clear hb7; refine wpl_append rfl (.tmp 71) (.tmp 72) 28 28 rfl _ _ rfl rfl hrun7 ?_; clear hrun7)
                have HS7 : Hid (SyW w (w7.setCell ⟨Qa, 0, none⟩ (.slice A7 s1.now.a.length c7)) p s1 Qw Qa (⟨s1.now.a, []⟩ : Sd) (⟨s1.now.a, []⟩ : Sd)) := SyW.setA (lw := (⟨s1.now.a, []⟩ : Sd)) (al := (⟨[], []⟩ : Sd)) false s1.now.a HT1.out HT2.out HT3.out HT4.out HT5.out HT6.out grow7 own7 at7
                clear own7 grow7 at7 HT1 HT2 HT3 HT4 HT5 HT6 HS5 HS6 HR6 HO5 HG5 qw fw qa
                go_wp2_with fail
                go_roundw
                case rel => exact ⟨(⟨s1.now.a, []⟩ : Sd), .inr (.inl ⟨by go_num, rfl⟩), HS7.out⟩
                case measure => simp [intOf]
              · have hr4 : rdyN s1 (sdI false) = 40 := by rw [rdy_both]; exact rdy_40 hr1
                obtain ⟨F5, X0, c0', X1, c1', v0', v1', t1, t2, t3, t4, t5, t6⟩ := HSD.out
                have HRD := read_rdy (sdI false) t1 (by rw [hr4]; decide)
                rw [hr4] at HRD
                have HRD2 := Lib.hid HRD
                clear t1 t2 t3 t4 t5 t6 HRD hr4 hr1
                go_wp2_with fail
                refine HRD2.out.mono ?_
                rintro e w' ⟨rfl, rfl⟩
                clear HRD2
                go_wp2_with fail
                refine (lives_any wr).mono ?_
                rintro e w8 ⟨rfl, hb8⟩
                have HB8 : Hid (Below w.heap.size w w8) := HSD.out.bel.trans (hb8.mono HSD.out.bel.size)
                clear hb8
                go_wp2_with fail
                go_ret
                exact ⟨rfl, HB8.out⟩
            · by_cases hr1 : rdyN s1 0 = 0
              · obtain ⟨F5, X0, c0', X1, c1', v0', v1', t1, t2, t3, t4, t5, t6⟩ := HSD.out
                have HRD := Lib.hid (read_any true t1 HS1.out.1 (by rw [rdy_both]; exact hr1))
                have hzl := HS1.out.1.now true
                have HWZ : Hid (Qw < wr.heap.size) := t3.lt
                clear t1 t2 t3 t4 t5 t6
                go_wp2_with fail
                refine HRD.out.mono ?_
                rintro e w5 ⟨A5, c5, rfl, own5, hg5, hb5⟩
                have HS5 := Lib.hid (HSD.out.below hb5)
                have HO5 := Lib.hid own5
                have HG5 := Lib.hid hg5
                clear own5 hg5 hb5 HRD HSD
                rw [show (s1.now.get true) = s1.now.b from rfl] at *
                obtain ⟨F5, X0, c0', X1, c1', v0', v1', t1, t2, t3, t4, t5, t6⟩ := HS5.out
                have qw : w5.cell? ⟨Qw, 1, none⟩ = some (.slice X1 ((⟨s1.now.a, []⟩ : Sd) : Sd).b.length c1') := t3.cell 1
                have fw := t3.frozen 1
                clear t1 t2 t3 t4 t5 t6
                have HS6 : Hid (SyW w (w5.setCell ⟨Qw, 1, none⟩ (.slice A5 s1.now.b.length c5)) p s1 Qw Qa s1.now (⟨s1.now.a, []⟩ : Sd)) := HS5.out.setW true A5 s1.now.b c5
                have HR6 : Hid (Rd (w5.setCell ⟨Qw, 1, none⟩ (.slice A5 s1.now.b.length c5)) A5 (bvals s1.now.b)) := HO5.out.rd.at_blocks (by simp) fun a ha _ => Below.heap_setCell _ _ _ _ (by have := (HG5.out a ha).1; have := HWZ.out; simp; omega)
                obtain ⟨F6, Y0, d0', Y1, d1', u0', u1', t1, t2, t3, t4, t5, t6⟩ := HS6.out
                have qa : (w5.setCell ⟨Qw, 1, none⟩ (.slice A5 s1.now.b.length c5)).cell? ⟨Qa, 1, none⟩ = some u1' := t4.cell 1
                have HT1 := Lib.hid t1
                have HT2 := Lib.hid t2
                have HT3 := Lib.hid t3
                have HT4 := Lib.hid t4
                have HT5 := Lib.hid t5
                have HT6 := Lib.hid t6
                clear t1 t2 t3 t4 t5 t6
                go_wp2_with (at_builtin; obtain ⟨v7, w7, hrun7, own7, grow7, at7⟩ := g_app byteE 28 HT5.out.o1 (A := A5) (news := bvals s1.now.b) s1.now.b.length c5 HR6.out (by rw [bvals_length, Nat.mul_one]) (bvals_one _) (by simp; omega) (by simp; unfold maxLen; omega); simp only [List.length_nil, Nat.zero_add, List.nil_append, bvals, List.map_nil] at own7 hrun7; obtain ⟨A7, c7, rfl, _, _⟩ := own7.slice; have hb7 : Blk w7 Qa 44 [u0', u1'] := HT4.out.grown grow7 (fun e => (HT6.out.fv Qa (.inr e.symm)).2.2.1 rfl); have qa7 : w7.cell? ⟨Qa, 1, none⟩ = some u1' := hb7.cell 1; have fa7 := hb7.frozen 1; clear hb7; refine wpl_append rfl (.tmp 71) (.tmp 72) 28 28 rfl _ _ rfl rfl hrun7 ?_; clear hrun7)
                have HS7 : Hid (SyW w (w7.setCell ⟨Qa, 1, none⟩ (.slice A7 s1.now.b.length c7)) p s1 Qw Qa s1.now s1.now) := SyW.setA (lw := s1.now) (al := (⟨s1.now.a, []⟩ : Sd)) true s1.now.b HT1.out HT2.out HT3.out HT4.out HT5.out HT6.out grow7 own7 at7
                clear own7 grow7 at7 HT1 HT2 HT3 HT4 HT5 HT6 HS5 HS6 HR6 HO5 HG5 qw fw qa
                go_wp2_with fail
                go_roundw
                case rel => exact ⟨s1.now, .inr (.inr ⟨by go_num, rfl⟩), HS7.out⟩
                case measure => simp [intOf]
              · have hr4 : rdyN s1 (sdI true) = 40 := by rw [rdy_both]; exact rdy_40 hr1
                obtain ⟨F5, X0, c0', X1, c1', v0', v1', t1, t2, t3, t4, t5, t6⟩ := HSD.out
                have HRD := read_rdy (sdI true) t1 (by rw [hr4]; decide)
                rw [hr4] at HRD
                have HRD2 := Lib.hid HRD
                clear t1 t2 t3 t4 t5 t6 HRD hr4 hr1
                go_wp2_with fail
                refine HRD2.out.mono ?_
                rintro e w' ⟨rfl, rfl⟩
                clear HRD2
                go_wp2_with fail
                refine (lives_any wr).mono ?_
                rintro e w8 ⟨rfl, hb8⟩
                have HB8 : Hid (Below w.heap.size w w8) := HSD.out.bel.trans (hb8.mono HSD.out.bel.size)
                clear hb8
                go_wp2_with fail
                go_ret
                exact ⟨rfl, HB8.out⟩
            · have HSDc := Lib.hid HSD.out
              go_upto_block 4 with fail
              go_cut [15, 16] (fun _ _ w' => ∃ s, SyW w w' p s Qw Qa s1.now s.now ∧ s.good ∧ s.safe = s1.now ∧ (∀ u ∈ s.us, u.cut = none) ∧ s.us.length ≤ 900)
              case first =>
                go_wp2_with fail
                obtain ⟨wo2, rfl⟩ : ∃ wo : World, wo = wr := ⟨_, rfl⟩
                go_loopw [15, 16] (fun i _ wr => InvL3 w p s1 Qw Qa m2 i wr) (fun i _ _ => 15 - (intOf i).toNat)
                case atStart => exact ⟨0, s1, by omega, by omega, rfl, HSD.out, HS1.out.1, HS1.out.2.2.symm, (fun u hu => by rw [HS1.out.2.1] at hu; simp at hu), by rw [HS1.out.2.1]; simp⟩
                case round =>
                  clear HSD
                  obtain ⟨k, s, hk, hk1, rfl, hsy, hgs, hsf, had, hus⟩ := hrel
                  have HSS := Lib.hid hsy
                  have HGS := Lib.hid hgs
                  have HSF := Lib.hid hsf
                  have HAD := Lib.hid had
                  have HUS : Hid (s.us.length ≤ 60 * k) := hus
                  clear hsy hgs hsf had hus
                  by_cases hlt : k < m2 ∧ k < 15
                  · obtain ⟨hkn, hk15⟩ := hlt
                    have hkn' : (k : Int) < (m2 : Int) := by omega
                    have hk15' : (k : Int) < 15 := by omega
                    obtain ⟨⟨kind, side, nn, da, bs, dc⟩, b, off, hA, hbl, hokw, hc⟩ := deed_at2 HD2.out (by rw [HN2.out]; exact hkn) HSS.out.bel
                    subst hA
                    have HX1 : Hid (∀ w', Below w.heap.size w w' → w'.cell? ⟨b, off + k * 4 + 1, none⟩ = some (.int .i64 side)) := fun w' hb => (World.cell?_of_block (w := w) (a := ⟨b, off + k * 4 + 1, none⟩) (hb.block b hbl)).trans (hc 1 _ rfl)
                    have HX3 : Hid (∀ w', Below w.heap.size w w' → w'.cell? ⟨b, off + k * 4 + 3, none⟩ = some (.slice da bs.length dc)) := fun w' hb => (World.cell?_of_block (w := w) (a := ⟨b, off + k * 4 + 3, none⟩) (hb.block b hbl)).trans (hc 3 _ rfl)
                    have x1 := HX1.out wr HSS.out.bel
                    have x3 := HX3.out wr HSS.out.bel
                    have HPK := Lib.hid (fun wx => pick_any side 2 wx hokw.s0.1 hokw.s0.2 (by omega) (by omega))
                    have hr2 := pick_lt side 2 (by omega)
                    have HFW := few_all da dc bs hokw.ld hokw.md
                    have HRD0 : Hid (Rd w da (bvals (bs.take 60))) := by
                      have := hokw.rd.take 60
                      rw [← bvals_take] at this
                      exact this
                    have HRDW : Hid (Rd wr da (bvals (bs.take 60))) := HRD0.out.below HSS.out.bel
                    have hb60 : (bs.take 60).length ≤ 60 := by simp; omega
                    clear hc hokw
                    generalize pickF side 2 = r at *
                    generalize bs.take 60 = bs2 at *
                    generalize bs.length = bl at *
                    go_wp2_with fail
                    refine (HPK.out _).mono ?_
                    rintro e w' ⟨rfl, rfl⟩
                    clear HPK
                    rcases (show r = 0 ∨ r = 1 by omega) with rfl | rfl
                    · have HWR := Lib.hid (HSS.out.tape fun F ht => write_all (sdI false) da dc bs2 ht HGS.out HRDW.out (by omega) (by have := HUS.out; omega))
                      by_cases hok : (opW s (sdI false) bs2).1 = 0
                      · have hyes := opW_yes hok
                        rw [show sideOf (sdI false) = false from rfl] at hyes
                        have hgd := opW_good HGS.out (sdI false) bs2
                        rw [hyes] at hgd
                        have HWR2 := HWR.out
                        rw [hok, hyes] at HWR2
                        have HW3 := Lib.hid HWR2
                        have HGD := Lib.hid hgd
                        have HNW : Hid ((s.did (wUs false bs2)).now = s.now.put false (s.now.get false ++ bs2)) := by rw [TSt.did_now]; exact runS_w _ _ _
                        have HCUT : Hid (∀ u ∈ (s.did (wUs false bs2)).us, u.cut = none) := fun u hu => by
                          rcases List.mem_append.1 hu with hu | hu
                          · exact HAD.out u hu
                          · obtain ⟨x, _, rfl⟩ := List.mem_map.1 hu; rfl
                        have hzl := HGS.out.now false
                        clear hok hyes hgd HWR HWR2
                        go_wp2_with fail
                        refine (HFW.out _).mono ?_
                        rintro e w' ⟨rfl, rfl⟩
                        go_wp2_with fail
                        refine HW3.out.mono ?_
                        rintro e w5 ⟨rfl, h5⟩
                        have HS5 : Hid (SyW w w5.drew p (s.did (wUs false bs2)) Qw Qa s1.now s.now) := h5.below (Below.drewN_ (Below.refl _ _) 1)
                        have xx3 := HX3.out w5 h5.bel
                        have hee : True := trivial
                        obtain ⟨F6, Y0, d0', Y1, d1', u0', u1', t1, t2, t3, t4, t5, t6⟩ := HS5.out
                        have qa : w5.cell? ⟨Qa, 0, none⟩ = some u0' := t4.cell 0
                        have HR6 : Hid (Rd w5.drew da (bvals bs2)) := HRD0.out.below t2
                        have HT1 := Lib.hid t1
                        have HT2 := Lib.hid t2
                        have HT3 := Lib.hid t3
                        have HT4 := Lib.hid t4
                        have HT5 := Lib.hid t5
                        have HT6 := Lib.hid t6
                        clear t1 t2 t3 t4 t5 t6 h5 HW3 x1 x3 hee
                        go_wp2_with fail
                        go_region_law (first
                          | (go_simp; go_at_call 20; refine (HFW.out _).mono ?_; rintro e w' ⟨rfl, rfl⟩)
                          | go_must (obtain ⟨v7, w7, hrun7, own7, grow7, at7⟩ := g_app byteE 28 HT5.out.o0 (A := da) (news := bvals bs2) bs2.length dc HR6.out (by rw [bvals_length, Nat.mul_one]) (bvals_one _) (by have := hzl; simp only [Sd.get] at this; omega) (by have := hzl; simp only [Sd.get] at this; unfold maxLen; omega); obtain ⟨A7, c7, rfl, _, _⟩ := own7.slice; have hb7 : Blk w7 Qa 44 [u0', u1'] := HT4.out.grown grow7 (fun e => (HT6.out.fv Qa (.inl e.symm)).2.2.1 rfl); have qa7 : w7.cell? ⟨Qa, 0, none⟩ = some u0' := hb7.cell 0; have fa7 := hb7.frozen 0; clear hb7; refine step_append (by rfl) (.tmp 104) (.tmp 110) 28 28 (by rfl) _ _ (by rfl) (by rfl) hrun7 ?_; clear hrun7))
                        all_goals
                          have HS7 : Hid (SyW w (w7.setCell ⟨Qa, 0, none⟩ (.slice A7 (s.now.a.length + bs2.length) c7)) p (s.did (wUs false bs2)) Qw Qa s1.now (s.did (wUs false bs2)).now) := by
                            rw [HNW.out]
                            exact SyW.setA false (s.now.get false ++ bs2) HT1.out HT2.out HT3.out HT4.out HT5.out HT6.out grow7 (by rw [List.length_append, bvals_append]; exact own7) at7
                          clear own7 grow7 at7 HT1 HT2 HT3 HT4 HT5 HT6 HS5 HR6 xx3 qa HNW
                          go_wp2_with fail
                          go_roundw
                          case rel => exact ⟨k + 1, _, by omega, by omega, by go_num, HS7.out, HGD.out.1, HSF.out, HCUT.out, by have := HGD.out.2; have := HUS.out; omega⟩
                          case measure => simp [intOf]; omega
                      · have hno := opW_no hok
                        have hne : ((opW s (sdI false) bs2).1 == 0) = false := by simpa using hok
                        have HWR2 := HWR.out
                        rw [hno] at HWR2
                        generalize (opW s (sdI false) bs2).1 = rr at *
                        have HW3 := Lib.hid HWR2
                        clear hok hno HWR HWR2
                        go_wp2_with fail
                        refine (HFW.out _).mono ?_
                        rintro e w' ⟨rfl, rfl⟩
                        go_wp2_with fail
                        refine HW3.out.mono ?_
                        rintro e w5 ⟨rfl, h5⟩
                        have HS5 := Lib.hid h5
                        clear h5 HW3 x1 x3
                        go_wp2_with fail
                        go_roundw
                        case rel => exact ⟨k + 1, s, by omega, by omega, by go_num, HS5.out, HGS.out, HSF.out, HAD.out, by have := HUS.out; omega⟩
                        case measure => simp [intOf]; omega
                    · have HWR := Lib.hid (HSS.out.tape fun F ht => write_all (sdI true) da dc bs2 ht HGS.out HRDW.out (by omega) (by have := HUS.out; omega))
                      by_cases hok : (opW s (sdI true) bs2).1 = 0
                      · have hyes := opW_yes hok
                        rw [show sideOf (sdI true) = true from rfl] at hyes
                        have hgd := opW_good HGS.out (sdI true) bs2
                        rw [hyes] at hgd
                        have HWR2 := HWR.out
                        rw [hok, hyes] at HWR2
                        have HW3 := Lib.hid HWR2
                        have HGD := Lib.hid hgd
                        have HNW : Hid ((s.did (wUs true bs2)).now = s.now.put true (s.now.get true ++ bs2)) := by rw [TSt.did_now]; exact runS_w _ _ _
                        have HCUT : Hid (∀ u ∈ (s.did (wUs true bs2)).us, u.cut = none) := fun u hu => by
                          rcases List.mem_append.1 hu with hu | hu
                          · exact HAD.out u hu
                          · obtain ⟨x, _, rfl⟩ := List.mem_map.1 hu; rfl
                        have hzl := HGS.out.now true
                        clear hok hyes hgd HWR HWR2
                        go_wp2_with fail
                        refine (HFW.out _).mono ?_
                        rintro e w' ⟨rfl, rfl⟩
                        go_wp2_with fail
                        refine HW3.out.mono ?_
                        rintro e w5 ⟨rfl, h5⟩
                        have HS5 : Hid (SyW w w5.drew p (s.did (wUs true bs2)) Qw Qa s1.now s.now) := h5.below (Below.drewN_ (Below.refl _ _) 1)
                        have xx3 := HX3.out w5 h5.bel
                        have hee : True := trivial
                        obtain ⟨F6, Y0, d0', Y1, d1', u0', u1', t1, t2, t3, t4, t5, t6⟩ := HS5.out
                        have qa : w5.cell? ⟨Qa, 1, none⟩ = some u1' := t4.cell 1
                        have HR6 : Hid (Rd w5.drew da (bvals bs2)) := HRD0.out.below t2
                        have HT1 := Lib.hid t1
                        have HT2 := Lib.hid t2
                        have HT3 := Lib.hid t3
                        have HT4 := Lib.hid t4
                        have HT5 := Lib.hid t5
                        have HT6 := Lib.hid t6
                        clear t1 t2 t3 t4 t5 t6 h5 HW3 x1 x3 hee
                        go_wp2_with fail
                        go_region_law (first
                          | (go_simp; go_at_call 20; refine (HFW.out _).mono ?_; rintro e w' ⟨rfl, rfl⟩)
                          | go_must (obtain ⟨v7, w7, hrun7, own7, grow7, at7⟩ := g_app byteE 28 HT5.out.o1 (A := da) (news := bvals bs2) bs2.length dc HR6.out (by rw [bvals_length, Nat.mul_one]) (bvals_one _) (by have := hzl; simp only [Sd.get] at this; omega) (by have := hzl; simp only [Sd.get] at this; unfold maxLen; omega); obtain ⟨A7, c7, rfl, _, _⟩ := own7.slice; have hb7 : Blk w7 Qa 44 [u0', u1'] := HT4.out.grown grow7 (fun e => (HT6.out.fv Qa (.inr e.symm)).2.2.1 rfl); have qa7 : w7.cell? ⟨Qa, 1, none⟩ = some u1' := hb7.cell 1; have fa7 := hb7.frozen 1; clear hb7; refine step_append (by rfl) (.tmp 104) (.tmp 110) 28 28 (by rfl) _ _ (by rfl) (by rfl) hrun7 ?_; clear hrun7))
                        all_goals
                          have HS7 : Hid (SyW w (w7.setCell ⟨Qa, 1, none⟩ (.slice A7 (s.now.b.length + bs2.length) c7)) p (s.did (wUs true bs2)) Qw Qa s1.now (s.did (wUs true bs2)).now) := by
                            rw [HNW.out]
                            exact SyW.setA true (s.now.get true ++ bs2) HT1.out HT2.out HT3.out HT4.out HT5.out HT6.out grow7 (by rw [List.length_append, bvals_append]; exact own7) at7
                          clear own7 grow7 at7 HT1 HT2 HT3 HT4 HT5 HT6 HS5 HR6 xx3 qa HNW
                          go_wp2_with fail
                          go_roundw
                          case rel => exact ⟨k + 1, _, by omega, by omega, by go_num, HS7.out, HGD.out.1, HSF.out, HCUT.out, by have := HGD.out.2; have := HUS.out; omega⟩
                          case measure => simp [intOf]; omega
                      · have hno := opW_no hok
                        have hne : ((opW s (sdI true) bs2).1 == 0) = false := by simpa using hok
                        have HWR2 := HWR.out
                        rw [hno] at HWR2
                        generalize (opW s (sdI true) bs2).1 = rr at *
                        have HW3 := Lib.hid HWR2
                        clear hok hno HWR HWR2
                        go_wp2_with fail
                        refine (HFW.out _).mono ?_
                        rintro e w' ⟨rfl, rfl⟩
                        go_wp2_with fail
                        refine HW3.out.mono ?_
                        rintro e w5 ⟨rfl, h5⟩
                        have HS5 := Lib.hid h5
                        clear h5 HW3 x1 x3
                        go_wp2_with fail
                        go_roundw
                        case rel => exact ⟨k + 1, s, by omega, by omega, by go_num, HS5.out, HGS.out, HSF.out, HAD.out, by have := HUS.out; omega⟩
                        case measure => simp [intOf]; omega
                  · have hx : ¬ (k : Int) < (m2 : Int) ∨ ((k : Int) < (m2 : Int) ∧ ¬ (k : Int) < 15) := by omega
                    have HREL : Hid (∃ s, SyW w wr p s Qw Qa s1.now s.now ∧ s.good ∧ s.safe = s1.now ∧ (∀ u ∈ s.us, u.cut = none) ∧ s.us.length ≤ 900) := ⟨s, HSS.out, HGS.out, HSF.out, HAD.out, by have := HUS.out; omega⟩
                    clear HSS HGS HSF HAD HUS
                    rcases hx with hx | ⟨hx, hx2⟩
                    all_goals
                      go_wp2_with fail
                      go_meet
                      case rel => exact HREL.out
              case rest =>
                  obtain ⟨s, hsy, hgs, hsf, had, hus⟩ := hcut
                  have HSS := Lib.hid hsy
                  have HGS := Lib.hid hgs
                  have HSF := Lib.hid hsf
                  have HAD := Lib.hid had
                  have HUS : Hid (s.us.length ≤ 900) := hus
                  clear hsy hgs hsf had hus HSD HSDc
                  have HCR := Lib.hid (HSS.out.tape fun F ht => crash_any n ht HGS.out HNN.out.1 HNN.out.2 (by have := HUS.out; omega))
                  have HGC := Lib.hid (HGS.out.crashed (pickF n (s.us.length + 1)))
                  have HPF : Hid (∀ o, (s1.now.get o).length ≤ ((runS s.safe (s.us.take (pickF n (s.us.length + 1)))).get o).length ∧ ((runS s.safe (s.us.take (pickF n (s.us.length + 1)))).get o).length ≤ (s.now.get o).length ∧ (s.now.get o).take ((runS s.safe (s.us.take (pickF n (s.us.length + 1)))).get o).length = (runS s.safe (s.us.take (pickF n (s.us.length + 1)))).get o) := fun o => by
                    have := run_prefix s.safe s.us HAD.out (pickF n (s.us.length + 1)) o
                    rw [HSF.out] at this ⊢
                    exact (by unfold TSt.now; rw [HSF.out]; exact this)
                  have HRC : Hid (rdyN (s.crashed (pickF n (s.us.length + 1))) (sdI false) = 0 ∧ rdyN (s.crashed (pickF n (s.us.length + 1))) (sdI true) = 0) := ⟨rdy_idle _ _ _ false, rdy_idle _ _ _ true⟩
                  generalize pickF n (s.us.length + 1) = K at *
                  clear HD2 HN2 hl2 HSS HSF HAD HUS
                  · go_wp2_with fail
                    refine HCR.out.mono ?_
                    rintro e w8 ⟨rfl, h8⟩
                    have HS8 := Lib.hid h8
                    clear h8 HCR
                    go_wp2_with fail
                    obtain ⟨wo3, rfl⟩ : ∃ wo : World, wo = wr := ⟨_, rfl⟩
                    go_loopw [17, 18, 19, 20] (fun i _ _ _ wr => InvL4 w p (s.crashed K) Qw Qa s1.now s.now i wr) (fun i _ _ _ _ => 2 - (intOf i).toNat)
                    case atStart => exact ⟨.inl rfl, HS8.out⟩
                    case round =>
                      clear HS8
                      obtain ⟨hi, hsy⟩ := hrel
                      have HS4 := Lib.hid hsy
                      clear hsy
                      rcases hi with rfl | rfl | rfl
                      · obtain ⟨F6, Y0, d0', Y1, d1', u0', u1', t1, t2, t3, t4, t5, t6⟩ := HS4.out
                        obtain ⟨U0, e0', hu0, _, _⟩ := t5.o0.slice
                        obtain ⟨U1, e1', hu1, _, _⟩ := t5.o1.slice
                        subst hu0 hu1
                        have HRD0 := read_any false t1 HGC.out HRC.out.1
                        rw [show (s.crashed K).now.get false = (runS s.safe (s.us.take K)).a from rfl] at HRD0
                        have HRD := Lib.hid HRD0
                        have qw : ∀ w', Below wr.heap.size wr w' → w'.cell? ⟨Qw, 0, none⟩ = some (.slice Y0 s1.now.a.length d0') := fun w' hb => (t3.below hb t3.lt).cell 0
                        have qa : ∀ w', Below wr.heap.size wr w' → w'.cell? ⟨Qa, 0, none⟩ = some (.slice U0 s.now.a.length e0') := fun w' hb => (t4.below hb t4.lt).cell 0
                        have HPA : Hid (∀ w', Below wr.heap.size wr w' → Rd w' U0 (bvals s.now.a)) := fun w' hb => t5.o0.rd.below hb
                        have HQW := Lib.hid qw
                        have HQA := Lib.hid qa
                        have hpf := HPF.out false
                        have hcc : s.now.a.length ≤ e0' := by assumption
                        have hz1 : (runS s.safe (s.us.take K)).a.length ≤ 65536 := HGC.out.now false
                        have hz2 : s.now.a.length ≤ 65536 := HGS.out.now false
                        simp only [Sd.get] at hpf
                        clear t1 t2 t3 t4 t5 t6 qw qa HRD0
                        go_wp2_with fail
                        refine HRD.out.mono ?_
                        rintro e w5 ⟨A5, c5, rfl, own5, hg5, hb5⟩
                        have HS5 := Lib.hid (HS4.out.below hb5)
                        have qw := HQW.out w5 hb5
                        have qa := HQA.out w5 hb5
                        have hrda := (HPA.out w5 hb5).take (runS s.safe (s.us.take K)).a.length
                        rw [← bvals_take, hpf.2.2] at hrda
                        have hs := same_any A5 U0 c5 e0' (runS s.safe (s.us.take K)).a (runS s.safe (s.us.take K)).a w5 own5.rd hrda (by omega) (by omega)
                        rw [sameB_self] at hs
                        have HS := Lib.hid hs
                        have g1 : ¬ (((runS s.safe (s.us.take K)).a.length : Int) < (s1.now.a.length : Int)) := by omega
                        have g2 : ¬ ((s.now.a.length : Int) < ((runS s.safe (s.us.take K)).a.length : Int)) := by omega
                        have g3 : ((runS s.safe (s.us.take K)).a.length : Int) ≤ (e0' : Int) := by omega
                        clear own5 hg5 hb5 HRD HS4 hs hrda hpf HQW HQA HPA
                        generalize (runS s.safe (s.us.take K)).a.length = nb at *
                        generalize s1.now.a.length = nw at *
                        generalize s.now.a.length = na at *
                        go_wp2_with fail
                        refine HS.out.mono ?_
                        rintro e w7 ⟨rfl, nd, rfl⟩
                        have HS7 := Lib.hid (HS5.out.below (Below.drewN_ (Below.refl _ _) nd))
                        clear HS HS5 qw qa
                        generalize w5.drewN nd = w7 at *
                        go_wp2_with fail
                        go_roundw
                        case rel => exact ⟨.inr (.inl (by go_num)), HS7.out⟩
                        case measure => simp [intOf]
                      · obtain ⟨F6, Y0, d0', Y1, d1', u0', u1', t1, t2, t3, t4, t5, t6⟩ := HS4.out
                        obtain ⟨U0, e0', hu0, _, _⟩ := t5.o0.slice
                        obtain ⟨U1, e1', hu1, _, _⟩ := t5.o1.slice
                        subst hu0 hu1
                        have HRD0 := read_any true t1 HGC.out HRC.out.2
                        rw [show (s.crashed K).now.get true = (runS s.safe (s.us.take K)).b from rfl] at HRD0
                        have HRD := Lib.hid HRD0
                        have qw : ∀ w', Below wr.heap.size wr w' → w'.cell? ⟨Qw, 1, none⟩ = some (.slice Y1 s1.now.b.length d1') := fun w' hb => (t3.below hb t3.lt).cell 1
                        have qa : ∀ w', Below wr.heap.size wr w' → w'.cell? ⟨Qa, 1, none⟩ = some (.slice U1 s.now.b.length e1') := fun w' hb => (t4.below hb t4.lt).cell 1
                        have HPA : Hid (∀ w', Below wr.heap.size wr w' → Rd w' U1 (bvals s.now.b)) := fun w' hb => t5.o1.rd.below hb
                        have HQW := Lib.hid qw
                        have HQA := Lib.hid qa
                        have hpf := HPF.out true
                        have hcc : s.now.b.length ≤ e1' := by assumption
                        have hz1 : (runS s.safe (s.us.take K)).b.length ≤ 65536 := HGC.out.now true
                        have hz2 : s.now.b.length ≤ 65536 := HGS.out.now true
                        simp only [Sd.get] at hpf
                        clear t1 t2 t3 t4 t5 t6 qw qa HRD0
                        go_wp2_with fail
                        refine HRD.out.mono ?_
                        rintro e w5 ⟨A5, c5, rfl, own5, hg5, hb5⟩
                        have HS5 := Lib.hid (HS4.out.below hb5)
                        have qw := HQW.out w5 hb5
                        have qa := HQA.out w5 hb5
                        have hrda := (HPA.out w5 hb5).take (runS s.safe (s.us.take K)).b.length
                        rw [← bvals_take, hpf.2.2] at hrda
                        have hs := same_any A5 U1 c5 e1' (runS s.safe (s.us.take K)).b (runS s.safe (s.us.take K)).b w5 own5.rd hrda (by omega) (by omega)
                        rw [sameB_self] at hs
                        have HS := Lib.hid hs
                        have g1 : ¬ (((runS s.safe (s.us.take K)).b.length : Int) < (s1.now.b.length : Int)) := by omega
                        have g2 : ¬ ((s.now.b.length : Int) < ((runS s.safe (s.us.take K)).b.length : Int)) := by omega
                        have g3 : ((runS s.safe (s.us.take K)).b.length : Int) ≤ (e1' : Int) := by omega
                        clear own5 hg5 hb5 HRD HS4 hs hrda hpf HQW HQA HPA
                        generalize (runS s.safe (s.us.take K)).b.length = nb at *
                        generalize s1.now.b.length = nw at *
                        generalize s.now.b.length = na at *
                        go_wp2_with fail
                        refine HS.out.mono ?_
                        rintro e w7 ⟨rfl, nd, rfl⟩
                        have HS7 := Lib.hid (HS5.out.below (Below.drewN_ (Below.refl _ _) nd))
                        clear HS HS5 qw qa
                        generalize w5.drewN nd = w7 at *
                        go_wp2_with fail
                        go_roundw
                        case rel => exact ⟨.inr (.inr (by go_num)), HS7.out⟩
                        case measure => simp [intOf]
                      · obtain ⟨F6, Y0, d0', Y1, d1', u0', u1', t1, t2, t3, t4, t5, t6⟩ := HS4.out
                        have HU := Lib.hid (units_any t1)
                        rw [show (s.crashed K).us.length = 0 from rfl] at HU
                        clear t1 t2 t3 t4 t5 t6
                        go_wp2_with fail
                        refine HU.out.mono ?_
                        rintro e w' ⟨rfl, rfl⟩
                        go_wp2_with fail
                        refine (lives_any wr).mono ?_
                        rintro e w9 ⟨rfl, hb9⟩
                        have HB9 : Hid (Below w.heap.size w w9) := HS4.out.bel.trans (hb9.mono HS4.out.bel.size)
                        clear hb9
                        go_wp2_with fail
                        go_ret
                        exact ⟨rfl, HB9.out⟩
      · have HSY := H0.out.sync_bad hq
        rw [rdy_40 hq] at HSY
        have HSY2 := Lib.hid HSY
        have HCR := H0.out.crash_ HG.out n HNN.out.1 HNN.out.2 HU2.out
        rw [show s.crashed (pickF n (s.us.length + 1)) = synced' s n from (if_neg hq).symm] at HCR
        have HCR2 := Lib.hid HCR
        generalize synced' s n = s1 at *
        clear HSY hq HCR
        · go_wp2_with fail
          refine HSY2.out.mono ?_
          rintro e w' ⟨rfl, rfl⟩
          go_wp2_with fail
          refine HCR2.out.mono ?_
          rintro e w4 ⟨rfl, h4⟩
          have H4 := Lib.hid h4
          clear h4 HSY2 HCR2 H0 HG HU2
          go_wp2_with fail
          have HSD := Lib.hid (SyW.start H4.out)
          generalize w4.heap.size + 1 = Qa at *
          generalize w4.heap.size = Qw at *
          generalize (w4.alloc (.cells #[.slice none 0 0, .slice none 0 0] 44)).alloc (.cells #[.slice none 0 0, .slice none 0 0] 44) = W5 at *
          clear H4
          go_loopw [12, 13, 14] (fun i _ _ wr => InvL2 w p s1 Qw Qa i wr) (fun i _ _ _ => 2 - (intOf i).toNat)
          case atStart => exact ⟨_, .inl ⟨rfl, rfl⟩, HSD.out⟩
          case round =>
            clear HSD
            obtain ⟨sd, hcase, hsy⟩ := hrel
            have HSD := Lib.hid hsy
            clear hsy
            rcases hcase with ⟨rfl, rfl⟩ | ⟨rfl, rfl⟩ | ⟨rfl, rfl⟩
            · by_cases hr1 : rdyN s1 0 = 0
              · obtain ⟨F5, X0, c0', X1, c1', v0', v1', t1, t2, t3, t4, t5, t6⟩ := HSD.out
                have HRD := Lib.hid (read_any false t1 HS1.out.1 (by rw [rdy_both]; exact hr1))
                have hzl := HS1.out.1.now false
                have HWZ : Hid (Qw < wr.heap.size) := t3.lt
                clear t1 t2 t3 t4 t5 t6
                go_wp2_with fail
                refine HRD.out.mono ?_
                rintro e w5 ⟨A5, c5, rfl, own5, hg5, hb5⟩
                have HS5 := Lib.hid (HSD.out.below hb5)
                have HO5 := Lib.hid own5
                have HG5 := Lib.hid hg5
                clear own5 hg5 hb5 HRD HSD
                rw [show (s1.now.get false) = s1.now.a from rfl] at *
                obtain ⟨F5, X0, c0', X1, c1', v0', v1', t1, t2, t3, t4, t5, t6⟩ := HS5.out
                have qw : w5.cell? ⟨Qw, 0, none⟩ = some (.slice X0 ((⟨[], []⟩ : Sd) : Sd).a.length c0') := t3.cell 0
                have fw := t3.frozen 0
                clear t1 t2 t3 t4 t5 t6
                have HS6 : Hid (SyW w (w5.setCell ⟨Qw, 0, none⟩ (.slice A5 s1.now.a.length c5)) p s1 Qw Qa (⟨s1.now.a, []⟩ : Sd) (⟨[], []⟩ : Sd)) := HS5.out.setW false A5 s1.now.a c5
                have HR6 : Hid (Rd (w5.setCell ⟨Qw, 0, none⟩ (.slice A5 s1.now.a.length c5)) A5 (bvals s1.now.a)) := HO5.out.rd.at_blocks (by simp) fun a ha _ => Below.heap_setCell _ _ _ _ (by have := (HG5.out a ha).1; have := HWZ.out; simp; omega)
                obtain ⟨F6, Y0, d0', Y1, d1', u0', u1', t1, t2, t3, t4, t5, t6⟩ := HS6.out
                have qa : (w5.setCell ⟨Qw, 0, none⟩ (.slice A5 s1.now.a.length c5)).cell? ⟨Qa, 0, none⟩ = some u0' := t4.cell 0
                have HT1 := Lib.hid t1
                have HT2 := Lib.hid t2
                have HT3 := Lib.hid t3
                have HT4 := Lib.hid t4
                have HT5 := Lib.hid t5
                have HT6 := Lib.hid t6
                clear t1 t2 t3 t4 t5 t6
                go_wp2_with (at_builtin; obtain ⟨v7, w7, hrun7, own7, grow7, at7⟩ := g_app byteE 28 HT5.out.o0 (A := A5) (news := bvals s1.now.a) s1.now.a.length c5 HR6.out (by rw [bvals_length, Nat.mul_one]) (bvals_one _) (by simp; omega) (by simp; unfold maxLen; omega); simp only [List.length_nil, Nat.zero_add, List.nil_append, bvals, List.map_nil] at own7 hrun7; obtain ⟨A7, c7, rfl, _, _⟩ := own7.slice; have hb7 : Blk w7 Qa 44 [u0', u1'] := HT4.out.grown grow7 (fun e => (HT6.out.fv Qa (.inl e.symm)).2.2.1 rfl); have qa7 : w7.cell? ⟨Qa, 0, none⟩ = some u0' := hb7.cell 0; have fa7 := hb7.frozen 0; clear hb7; refine wpl_append rfl (.tmp 71) (.tmp 72) 28 28 rfl _ _ rfl rfl hrun7 ?_; clear hrun7)
                have HS7 : Hid (SyW w (w7.setCell ⟨Qa, 0, none⟩ (.slice A7 s1.now.a.length c7)) p s1 Qw Qa (⟨s1.now.a, []⟩ : Sd) (⟨s1.now.a, []⟩ : Sd)) := SyW.setA (lw := (⟨s1.now.a, []⟩ : Sd)) (al := (⟨[], []⟩ : Sd)) false s1.now.a HT1.out HT2.out HT3.out HT4.out HT5.out HT6.out grow7 own7 at7
                clear own7 grow7 at7 HT1 HT2 HT3 HT4 HT5 HT6 HS5 HS6 HR6 HO5 HG5 qw fw qa
                go_wp2_with fail
                go_roundw
                case rel => exact ⟨(⟨s1.now.a, []⟩ : Sd), .inr (.inl ⟨by go_num, rfl⟩), HS7.out⟩
                case measure => simp [intOf]
              · have hr4 : rdyN s1 (sdI false) = 40 := by rw [rdy_both]; exact rdy_40 hr1
                obtain ⟨F5, X0, c0', X1, c1', v0', v1', t1, t2, t3, t4, t5, t6⟩ := HSD.out
                have HRD := read_rdy (sdI false) t1 (by rw [hr4]; decide)
                rw [hr4] at HRD
                have HRD2 := Lib.hid HRD
                clear t1 t2 t3 t4 t5 t6 HRD hr4 hr1
                go_wp2_with fail
                refine HRD2.out.mono ?_
                rintro e w' ⟨rfl, rfl⟩
                clear HRD2
                go_wp2_with fail
                refine (lives_any wr).mono ?_
                rintro e w8 ⟨rfl, hb8⟩
                have HB8 : Hid (Below w.heap.size w w8) := HSD.out.bel.trans (hb8.mono HSD.out.bel.size)
                clear hb8
                go_wp2_with fail
                go_ret
                exact ⟨rfl, HB8.out⟩
            · by_cases hr1 : rdyN s1 0 = 0
              · obtain ⟨F5, X0, c0', X1, c1', v0', v1', t1, t2, t3, t4, t5, t6⟩ := HSD.out
                have HRD := Lib.hid (read_any true t1 HS1.out.1 (by rw [rdy_both]; exact hr1))
                have hzl := HS1.out.1.now true
                have HWZ : Hid (Qw < wr.heap.size) := t3.lt
                clear t1 t2 t3 t4 t5 t6
                go_wp2_with fail
                refine HRD.out.mono ?_
                rintro e w5 ⟨A5, c5, rfl, own5, hg5, hb5⟩
                have HS5 := Lib.hid (HSD.out.below hb5)
                have HO5 := Lib.hid own5
                have HG5 := Lib.hid hg5
                clear own5 hg5 hb5 HRD HSD
                rw [show (s1.now.get true) = s1.now.b from rfl] at *
                obtain ⟨F5, X0, c0', X1, c1', v0', v1', t1, t2, t3, t4, t5, t6⟩ := HS5.out
                have qw : w5.cell? ⟨Qw, 1, none⟩ = some (.slice X1 ((⟨s1.now.a, []⟩ : Sd) : Sd).b.length c1') := t3.cell 1
                have fw := t3.frozen 1
                clear t1 t2 t3 t4 t5 t6
                have HS6 : Hid (SyW w (w5.setCell ⟨Qw, 1, none⟩ (.slice A5 s1.now.b.length c5)) p s1 Qw Qa s1.now (⟨s1.now.a, []⟩ : Sd)) := HS5.out.setW true A5 s1.now.b c5
                have HR6 : Hid (Rd (w5.setCell ⟨Qw, 1, none⟩ (.slice A5 s1.now.b.length c5)) A5 (bvals s1.now.b)) := HO5.out.rd.at_blocks (by simp) fun a ha _ => Below.heap_setCell _ _ _ _ (by have := (HG5.out a ha).1; have := HWZ.out; simp; omega)
                obtain ⟨F6, Y0, d0', Y1, d1', u0', u1', t1, t2, t3, t4, t5, t6⟩ := HS6.out
                have qa : (w5.setCell ⟨Qw, 1, none⟩ (.slice A5 s1.now.b.length c5)).cell? ⟨Qa, 1, none⟩ = some u1' := t4.cell 1
                have HT1 := Lib.hid t1
                have HT2 := Lib.hid t2
                have HT3 := Lib.hid t3
                have HT4 := Lib.hid t4
                have HT5 := Lib.hid t5
                have HT6 := Lib.hid t6
                clear t1 t2 t3 t4 t5 t6
                go_wp2_with (at_builtin; obtain ⟨v7, w7, hrun7, own7, grow7, at7⟩ := g_app byteE 28 HT5.out.o1 (A := A5) (news := bvals s1.now.b) s1.now.b.length c5 HR6.out (by rw [bvals_length, Nat.mul_one]) (bvals_one _) (by simp; omega) (by simp; unfold maxLen; omega); simp only [List.length_nil, Nat.zero_add, List.nil_append, bvals, List.map_nil] at own7 hrun7; obtain ⟨A7, c7, rfl, _, _⟩ := own7.slice; have hb7 : Blk w7 Qa 44 [u0', u1'] := HT4.out.grown grow7 (fun e => (HT6.out.fv Qa (.inr e.symm)).2.2.1 rfl); have qa7 : w7.cell? ⟨Qa, 1, none⟩ = some u1' := hb7.cell 1; have fa7 := hb7.frozen 1; clear hb7; refine wpl_append rfl (.tmp 71) (.tmp 72) 28 28 rfl _ _ rfl rfl hrun7 ?_; clear hrun7)
                have HS7 : Hid (SyW w (w7.setCell ⟨Qa, 1, none⟩ (.slice A7 s1.now.b.length c7)) p s1 Qw Qa s1.now s1.now) := SyW.setA (lw := s1.now) (al := (⟨s1.now.a, []⟩ : Sd)) true s1.now.b HT1.out HT2.out HT3.out HT4.out HT5.out HT6.out grow7 own7 at7
                clear own7 grow7 at7 HT1 HT2 HT3 HT4 HT5 HT6 HS5 HS6 HR6 HO5 HG5 qw fw qa
                go_wp2_with fail
                go_roundw
                case rel => exact ⟨s1.now, .inr (.inr ⟨by go_num, rfl⟩), HS7.out⟩
                case measure => simp [intOf]
              · have hr4 : rdyN s1 (sdI true) = 40 := by rw [rdy_both]; exact rdy_40 hr1
                obtain ⟨F5, X0, c0', X1, c1', v0', v1', t1, t2, t3, t4, t5, t6⟩ := HSD.out
                have HRD := read_rdy (sdI true) t1 (by rw [hr4]; decide)
                rw [hr4] at HRD
                have HRD2 := Lib.hid HRD
                clear t1 t2 t3 t4 t5 t6 HRD hr4 hr1
                go_wp2_with fail
                refine HRD2.out.mono ?_
                rintro e w' ⟨rfl, rfl⟩
                clear HRD2
                go_wp2_with fail
                refine (lives_any wr).mono ?_
                rintro e w8 ⟨rfl, hb8⟩
                have HB8 : Hid (Below w.heap.size w w8) := HSD.out.bel.trans (hb8.mono HSD.out.bel.size)
                clear hb8
                go_wp2_with fail
                go_ret
                exact ⟨rfl, HB8.out⟩
            · have HSDc := Lib.hid HSD.out
              go_upto_block 4 with fail
              go_cut [15, 16] (fun _ _ w' => ∃ s, SyW w w' p s Qw Qa s1.now s.now ∧ s.good ∧ s.safe = s1.now ∧ (∀ u ∈ s.us, u.cut = none) ∧ s.us.length ≤ 900)
              case first =>
                go_wp2_with fail
                obtain ⟨wo2, rfl⟩ : ∃ wo : World, wo = wr := ⟨_, rfl⟩
                go_loopw [15, 16] (fun i _ wr => InvL3 w p s1 Qw Qa m2 i wr) (fun i _ _ => 15 - (intOf i).toNat)
                case atStart => exact ⟨0, s1, by omega, by omega, rfl, HSD.out, HS1.out.1, HS1.out.2.2.symm, (fun u hu => by rw [HS1.out.2.1] at hu; simp at hu), by rw [HS1.out.2.1]; simp⟩
                case round =>
                  clear HSD
                  obtain ⟨k, s, hk, hk1, rfl, hsy, hgs, hsf, had, hus⟩ := hrel
                  have HSS := Lib.hid hsy
                  have HGS := Lib.hid hgs
                  have HSF := Lib.hid hsf
                  have HAD := Lib.hid had
                  have HUS : Hid (s.us.length ≤ 60 * k) := hus
                  clear hsy hgs hsf had hus
                  by_cases hlt : k < m2 ∧ k < 15
                  · obtain ⟨hkn, hk15⟩ := hlt
                    have hkn' : (k : Int) < (m2 : Int) := by omega
                    have hk15' : (k : Int) < 15 := by omega
                    obtain ⟨⟨kind, side, nn, da, bs, dc⟩, b, off, hA, hbl, hokw, hc⟩ := deed_at2 HD2.out (by rw [HN2.out]; exact hkn) HSS.out.bel
                    subst hA
                    have HX1 : Hid (∀ w', Below w.heap.size w w' → w'.cell? ⟨b, off + k * 4 + 1, none⟩ = some (.int .i64 side)) := fun w' hb => (World.cell?_of_block (w := w) (a := ⟨b, off + k * 4 + 1, none⟩) (hb.block b hbl)).trans (hc 1 _ rfl)
                    have HX3 : Hid (∀ w', Below w.heap.size w w' → w'.cell? ⟨b, off + k * 4 + 3, none⟩ = some (.slice da bs.length dc)) := fun w' hb => (World.cell?_of_block (w := w) (a := ⟨b, off + k * 4 + 3, none⟩) (hb.block b hbl)).trans (hc 3 _ rfl)
                    have x1 := HX1.out wr HSS.out.bel
                    have x3 := HX3.out wr HSS.out.bel
                    have HPK := Lib.hid (fun wx => pick_any side 2 wx hokw.s0.1 hokw.s0.2 (by omega) (by omega))
                    have hr2 := pick_lt side 2 (by omega)
                    have HFW := few_all da dc bs hokw.ld hokw.md
                    have HRD0 : Hid (Rd w da (bvals (bs.take 60))) := by
                      have := hokw.rd.take 60
                      rw [← bvals_take] at this
                      exact this
                    have HRDW : Hid (Rd wr da (bvals (bs.take 60))) := HRD0.out.below HSS.out.bel
                    have hb60 : (bs.take 60).length ≤ 60 := by simp; omega
                    clear hc hokw
                    generalize pickF side 2 = r at *
                    generalize bs.take 60 = bs2 at *
                    generalize bs.length = bl at *
                    go_wp2_with fail
                    refine (HPK.out _).mono ?_
                    rintro e w' ⟨rfl, rfl⟩
                    clear HPK
                    rcases (show r = 0 ∨ r = 1 by omega) with rfl | rfl
                    · have HWR := Lib.hid (HSS.out.tape fun F ht => write_all (sdI false) da dc bs2 ht HGS.out HRDW.out (by omega) (by have := HUS.out; omega))
                      by_cases hok : (opW s (sdI false) bs2).1 = 0
                      · have hyes := opW_yes hok
                        rw [show sideOf (sdI false) = false from rfl] at hyes
                        have hgd := opW_good HGS.out (sdI false) bs2
                        rw [hyes] at hgd
                        have HWR2 := HWR.out
                        rw [hok, hyes] at HWR2
                        have HW3 := Lib.hid HWR2
                        have HGD := Lib.hid hgd
                        have HNW : Hid ((s.did (wUs false bs2)).now = s.now.put false (s.now.get false ++ bs2)) := by rw [TSt.did_now]; exact runS_w _ _ _
                        have HCUT : Hid (∀ u ∈ (s.did (wUs false bs2)).us, u.cut = none) := fun u hu => by
                          rcases List.mem_append.1 hu with hu | hu
                          · exact HAD.out u hu
                          · obtain ⟨x, _, rfl⟩ := List.mem_map.1 hu; rfl
                        have hzl := HGS.out.now false
                        clear hok hyes hgd HWR HWR2
                        go_wp2_with fail
                        refine (HFW.out _).mono ?_
                        rintro e w' ⟨rfl, rfl⟩
                        go_wp2_with fail
                        refine HW3.out.mono ?_
                        rintro e w5 ⟨rfl, h5⟩
                        have HS5 : Hid (SyW w w5.drew p (s.did (wUs false bs2)) Qw Qa s1.now s.now) := h5.below (Below.drewN_ (Below.refl _ _) 1)
                        have xx3 := HX3.out w5 h5.bel
                        have hee : True := trivial
                        obtain ⟨F6, Y0, d0', Y1, d1', u0', u1', t1, t2, t3, t4, t5, t6⟩ := HS5.out
                        have qa : w5.cell? ⟨Qa, 0, none⟩ = some u0' := t4.cell 0
                        have HR6 : Hid (Rd w5.drew da (bvals bs2)) := HRD0.out.below t2
                        have HT1 := Lib.hid t1
                        have HT2 := Lib.hid t2
                        have HT3 := Lib.hid t3
                        have HT4 := Lib.hid t4
                        have HT5 := Lib.hid t5
                        have HT6 := Lib.hid t6
                        clear t1 t2 t3 t4 t5 t6 h5 HW3 x1 x3 hee
                        go_wp2_with fail
                        go_region_law (first
                          | (go_simp; go_at_call 20; refine (HFW.out _).mono ?_; rintro e w' ⟨rfl, rfl⟩)
                          | go_must (obtain ⟨v7, w7, hrun7, own7, grow7, at7⟩ := g_app byteE 28 HT5.out.o0 (A := da) (news := bvals bs2) bs2.length dc HR6.out (by rw [bvals_length, Nat.mul_one]) (bvals_one _) (by have := hzl; simp only [Sd.get] at this; omega) (by have := hzl; simp only [Sd.get] at this; unfold maxLen; omega); obtain ⟨A7, c7, rfl, _, _⟩ := own7.slice; have hb7 : Blk w7 Qa 44 [u0', u1'] := HT4.out.grown grow7 (fun e => (HT6.out.fv Qa (.inl e.symm)).2.2.1 rfl); have qa7 : w7.cell? ⟨Qa, 0, none⟩ = some u0' := hb7.cell 0; have fa7 := hb7.frozen 0; clear hb7; refine step_append (by rfl) (.tmp 104) (.tmp 110) 28 28 (by rfl) _ _ (by rfl) (by rfl) hrun7 ?_; clear hrun7))
                        all_goals
                          have HS7 : Hid (SyW w (w7.setCell ⟨Qa, 0, none⟩ (.slice A7 (s.now.a.length + bs2.length) c7)) p (s.did (wUs false bs2)) Qw Qa s1.now (s.did (wUs false bs2)).now) := by
                            rw [HNW.out]
                            exact SyW.setA false (s.now.get false ++ bs2) HT1.out HT2.out HT3.out HT4.out HT5.out HT6.out grow7 (by rw [List.length_append, bvals_append]; exact own7) at7
                          clear own7 grow7 at7 HT1 HT2 HT3 HT4 HT5 HT6 HS5 HR6 xx3 qa HNW
                          go_wp2_with fail
                          go_roundw
                          case rel => exact ⟨k + 1, _, by omega, by omega, by go_num, HS7.out, HGD.out.1, HSF.out, HCUT.out, by have := HGD.out.2; have := HUS.out; omega⟩
                          case measure => simp [intOf]; omega
                      · have hno := opW_no hok
                        have hne : ((opW s (sdI false) bs2).1 == 0) = false := by simpa using hok
                        have HWR2 := HWR.out
                        rw [hno] at HWR2
                        generalize (opW s (sdI false) bs2).1 = rr at *
                        have HW3 := Lib.hid HWR2
                        clear hok hno HWR HWR2
                        go_wp2_with fail
                        refine (HFW.out _).mono ?_
                        rintro e w' ⟨rfl, rfl⟩
                        go_wp2_with fail
                        refine HW3.out.mono ?_
                        rintro e w5 ⟨rfl, h5⟩
                        have HS5 := Lib.hid h5
                        clear h5 HW3 x1 x3
                        go_wp2_with fail
                        go_roundw
                        case rel => exact ⟨k + 1, s, by omega, by omega, by go_num, HS5.out, HGS.out, HSF.out, HAD.out, by have := HUS.out; omega⟩
                        case measure => simp [intOf]; omega
                    · have HWR := Lib.hid (HSS.out.tape fun F ht => write_all (sdI true) da dc bs2 ht HGS.out HRDW.out (by omega) (by have := HUS.out; omega))
                      by_cases hok : (opW s (sdI true) bs2).1 = 0
                      · have hyes := opW_yes hok
                        rw [show sideOf (sdI true) = true from rfl] at hyes
                        have hgd := opW_good HGS.out (sdI true) bs2
                        rw [hyes] at hgd
                        have HWR2 := HWR.out
                        rw [hok, hyes] at HWR2
                        have HW3 := Lib.hid HWR2
                        have HGD := Lib.hid hgd
                        have HNW : Hid ((s.did (wUs true bs2)).now = s.now.put true (s.now.get true ++ bs2)) := by rw [TSt.did_now]; exact runS_w _ _ _
                        have HCUT : Hid (∀ u ∈ (s.did (wUs true bs2)).us, u.cut = none) := fun u hu => by
                          rcases List.mem_append.1 hu with hu | hu
                          · exact HAD.out u hu
                          · obtain ⟨x, _, rfl⟩ := List.mem_map.1 hu; rfl
                        have hzl := HGS.out.now true
                        clear hok hyes hgd HWR HWR2
                        go_wp2_with fail
                        refine (HFW.out _).mono ?_
                        rintro e w' ⟨rfl, rfl⟩
                        go_wp2_with fail
                        refine HW3.out.mono ?_
                        rintro e w5 ⟨rfl, h5⟩
                        have HS5 : Hid (SyW w w5.drew p (s.did (wUs true bs2)) Qw Qa s1.now s.now) := h5.below (Below.drewN_ (Below.refl _ _) 1)
                        have xx3 := HX3.out w5 h5.bel
                        have hee : True := trivial
                        obtain ⟨F6, Y0, d0', Y1, d1', u0', u1', t1, t2, t3, t4, t5, t6⟩ := HS5.out
                        have qa : w5.cell? ⟨Qa, 1, none⟩ = some u1' := t4.cell 1
                        have HR6 : Hid (Rd w5.drew da (bvals bs2)) := HRD0.out.below t2
                        have HT1 := Lib.hid t1
                        have HT2 := Lib.hid t2
                        have HT3 := Lib.hid t3
                        have HT4 := Lib.hid t4
                        have HT5 := Lib.hid t5
                        have HT6 := Lib.hid t6
                        clear t1 t2 t3 t4 t5 t6 h5 HW3 x1 x3 hee
                        go_wp2_with fail
                        go_region_law (first
                          | (go_simp; go_at_call 20; refine (HFW.out _).mono ?_; rintro e w' ⟨rfl, rfl⟩)
                          | go_must (obtain ⟨v7, w7, hrun7, own7, grow7, at7⟩ := g_app byteE 28 HT5.out.o1 (A := da) (news := bvals bs2) bs2.length dc HR6.out (by rw [bvals_length, Nat.mul_one]) (bvals_one _) (by have := hzl; simp only [Sd.get] at this; omega) (by have := hzl; simp only [Sd.get] at this; unfold maxLen; omega); obtain ⟨A7, c7, rfl, _, _⟩ := own7.slice; have hb7 : Blk w7 Qa 44 [u0', u1'] := HT4.out.grown grow7 (fun e => (HT6.out.fv Qa (.inr e.symm)).2.2.1 rfl); have qa7 : w7.cell? ⟨Qa, 1, none⟩ = some u1' := hb7.cell 1; have fa7 := hb7.frozen 1; clear hb7; refine step_append (by rfl) (.tmp 104) (.tmp 110) 28 28 (by rfl) _ _ (by rfl) (by rfl) hrun7 ?_; clear hrun7))
                        all_goals
                          have HS7 : Hid (SyW w (w7.setCell ⟨Qa, 1, none⟩ (.slice A7 (s.now.b.length + bs2.length) c7)) p (s.did (wUs true bs2)) Qw Qa s1.now (s.did (wUs true bs2)).now) := by
                            rw [HNW.out]
                            exact SyW.setA true (s.now.get true ++ bs2) HT1.out HT2.out HT3.out HT4.out HT5.out HT6.out grow7 (by rw [List.length_append, bvals_append]; exact own7) at7
                          clear own7 grow7 at7 HT1 HT2 HT3 HT4 HT5 HT6 HS5 HR6 xx3 qa HNW
                          go_wp2_with fail
                          go_roundw
                          case rel => exact ⟨k + 1, _, by omega, by omega, by go_num, HS7.out, HGD.out.1, HSF.out, HCUT.out, by have := HGD.out.2; have := HUS.out; omega⟩
                          case measure => simp [intOf]; omega
                      · have hno := opW_no hok
                        have hne : ((opW s (sdI true) bs2).1 == 0) = false := by simpa using hok
                        have HWR2 := HWR.out
                        rw [hno] at HWR2
                        generalize (opW s (sdI true) bs2).1 = rr at *
                        have HW3 := Lib.hid HWR2
                        clear hok hno HWR HWR2
                        go_wp2_with fail
                        refine (HFW.out _).mono ?_
                        rintro e w' ⟨rfl, rfl⟩
                        go_wp2_with fail
                        refine HW3.out.mono ?_
                        rintro e w5 ⟨rfl, h5⟩
                        have HS5 := Lib.hid h5
                        clear h5 HW3 x1 x3
                        go_wp2_with fail
                        go_roundw
                        case rel => exact ⟨k + 1, s, by omega, by omega, by go_num, HS5.out, HGS.out, HSF.out, HAD.out, by have := HUS.out; omega⟩
                        case measure => simp [intOf]; omega
                  · have hx : ¬ (k : Int) < (m2 : Int) ∨ ((k : Int) < (m2 : Int) ∧ ¬ (k : Int) < 15) := by omega
                    have HREL : Hid (∃ s, SyW w wr p s Qw Qa s1.now s.now ∧ s.good ∧ s.safe = s1.now ∧ (∀ u ∈ s.us, u.cut = none) ∧ s.us.length ≤ 900) := ⟨s, HSS.out, HGS.out, HSF.out, HAD.out, by have := HUS.out; omega⟩
                    clear HSS HGS HSF HAD HUS
                    rcases hx with hx | ⟨hx, hx2⟩
                    all_goals
                      go_wp2_with fail
                      go_meet
                      case rel => exact HREL.out
              case rest =>
                  obtain ⟨s, hsy, hgs, hsf, had, hus⟩ := hcut
                  have HSS := Lib.hid hsy
                  have HGS := Lib.hid hgs
                  have HSF := Lib.hid hsf
                  have HAD := Lib.hid had
                  have HUS : Hid (s.us.length ≤ 900) := hus
                  clear hsy hgs hsf had hus HSD HSDc
                  have HCR := Lib.hid (HSS.out.tape fun F ht => crash_any n ht HGS.out HNN.out.1 HNN.out.2 (by have := HUS.out; omega))
                  have HGC := Lib.hid (HGS.out.crashed (pickF n (s.us.length + 1)))
                  have HPF : Hid (∀ o, (s1.now.get o).length ≤ ((runS s.safe (s.us.take (pickF n (s.us.length + 1)))).get o).length ∧ ((runS s.safe (s.us.take (pickF n (s.us.length + 1)))).get o).length ≤ (s.now.get o).length ∧ (s.now.get o).take ((runS s.safe (s.us.take (pickF n (s.us.length + 1)))).get o).length = (runS s.safe (s.us.take (pickF n (s.us.length + 1)))).get o) := fun o => by
                    have := run_prefix s.safe s.us HAD.out (pickF n (s.us.length + 1)) o
                    rw [HSF.out] at this ⊢
                    exact (by unfold TSt.now; rw [HSF.out]; exact this)
                  have HRC : Hid (rdyN (s.crashed (pickF n (s.us.length + 1))) (sdI false) = 0 ∧ rdyN (s.crashed (pickF n (s.us.length + 1))) (sdI true) = 0) := ⟨rdy_idle _ _ _ false, rdy_idle _ _ _ true⟩
                  generalize pickF n (s.us.length + 1) = K at *
                  clear HD2 HN2 hl2 HSS HSF HAD HUS
                  · go_wp2_with fail
                    refine HCR.out.mono ?_
                    rintro e w8 ⟨rfl, h8⟩
                    have HS8 := Lib.hid h8
                    clear h8 HCR
                    go_wp2_with fail
                    obtain ⟨wo3, rfl⟩ : ∃ wo : World, wo = wr := ⟨_, rfl⟩
                    go_loopw [17, 18, 19, 20] (fun i _ _ _ wr => InvL4 w p (s.crashed K) Qw Qa s1.now s.now i wr) (fun i _ _ _ _ => 2 - (intOf i).toNat)
                    case atStart => exact ⟨.inl rfl, HS8.out⟩
                    case round =>
                      clear HS8
                      obtain ⟨hi, hsy⟩ := hrel
                      have HS4 := Lib.hid hsy
                      clear hsy
                      rcases hi with rfl | rfl | rfl
                      · obtain ⟨F6, Y0, d0', Y1, d1', u0', u1', t1, t2, t3, t4, t5, t6⟩ := HS4.out
                        obtain ⟨U0, e0', hu0, _, _⟩ := t5.o0.slice
                        obtain ⟨U1, e1', hu1, _, _⟩ := t5.o1.slice
                        subst hu0 hu1
                        have HRD0 := read_any false t1 HGC.out HRC.out.1
                        rw [show (s.crashed K).now.get false = (runS s.safe (s.us.take K)).a from rfl] at HRD0
                        have HRD := Lib.hid HRD0
                        have qw : ∀ w', Below wr.heap.size wr w' → w'.cell? ⟨Qw, 0, none⟩ = some (.slice Y0 s1.now.a.length d0') := fun w' hb => (t3.below hb t3.lt).cell 0
                        have qa : ∀ w', Below wr.heap.size wr w' → w'.cell? ⟨Qa, 0, none⟩ = some (.slice U0 s.now.a.length e0') := fun w' hb => (t4.below hb t4.lt).cell 0
                        have HPA : Hid (∀ w', Below wr.heap.size wr w' → Rd w' U0 (bvals s.now.a)) := fun w' hb => t5.o0.rd.below hb
                        have HQW := Lib.hid qw
                        have HQA := Lib.hid qa
                        have hpf := HPF.out false
                        have hcc : s.now.a.length ≤ e0' := by assumption
                        have hz1 : (runS s.safe (s.us.take K)).a.length ≤ 65536 := HGC.out.now false
                        have hz2 : s.now.a.length ≤ 65536 := HGS.out.now false
                        simp only [Sd.get] at hpf
                        clear t1 t2 t3 t4 t5 t6 qw qa HRD0
                        go_wp2_with fail
                        refine HRD.out.mono ?_
                        rintro e w5 ⟨A5, c5, rfl, own5, hg5, hb5⟩
                        have HS5 := Lib.hid (HS4.out.below hb5)
                        have qw := HQW.out w5 hb5
                        have qa := HQA.out w5 hb5
                        have hrda := (HPA.out w5 hb5).take (runS s.safe (s.us.take K)).a.length
                        rw [← bvals_take, hpf.2.2] at hrda
                        have hs := same_any A5 U0 c5 e0' (runS s.safe (s.us.take K)).a (runS s.safe (s.us.take K)).a w5 own5.rd hrda (by omega) (by omega)
                        rw [sameB_self] at hs
                        have HS := Lib.hid hs
                        have g1 : ¬ (((runS s.safe (s.us.take K)).a.length : Int) < (s1.now.a.length : Int)) := by omega
                        have g2 : ¬ ((s.now.a.length : Int) < ((runS s.safe (s.us.take K)).a.length : Int)) := by omega
                        have g3 : ((runS s.safe (s.us.take K)).a.length : Int) ≤ (e0' : Int) := by omega
                        clear own5 hg5 hb5 HRD HS4 hs hrda hpf HQW HQA HPA
                        generalize (runS s.safe (s.us.take K)).a.length = nb at *
                        generalize s1.now.a.length = nw at *
                        generalize s.now.a.length = na at *
                        go_wp2_with fail
                        refine HS.out.mono ?_
                        rintro e w7 ⟨rfl, nd, rfl⟩
                        have HS7 := Lib.hid (HS5.out.below (Below.drewN_ (Below.refl _ _) nd))
                        clear HS HS5 qw qa
                        generalize w5.drewN nd = w7 at *
                        go_wp2_with fail
                        go_roundw
                        case rel => exact ⟨.inr (.inl (by go_num)), HS7.out⟩
                        case measure => simp [intOf]
                      · obtain ⟨F6, Y0, d0', Y1, d1', u0', u1', t1, t2, t3, t4, t5, t6⟩ := HS4.out
                        obtain ⟨U0, e0', hu0, _, _⟩ := t5.o0.slice
                        obtain ⟨U1, e1', hu1, _, _⟩ := t5.o1.slice
                        subst hu0 hu1
                        have HRD0 := read_any true t1 HGC.out HRC.out.2
                        rw [show (s.crashed K).now.get true = (runS s.safe (s.us.take K)).b from rfl] at HRD0
                        have HRD := Lib.hid HRD0
                        have qw : ∀ w', Below wr.heap.size wr w' → w'.cell? ⟨Qw, 1, none⟩ = some (.slice Y1 s1.now.b.length d1') := fun w' hb => (t3.below hb t3.lt).cell 1
                        have qa : ∀ w', Below wr.heap.size wr w' → w'.cell? ⟨Qa, 1, none⟩ = some (.slice U1 s.now.b.length e1') := fun w' hb => (t4.below hb t4.lt).cell 1
                        have HPA : Hid (∀ w', Below wr.heap.size wr w' → Rd w' U1 (bvals s.now.b)) := fun w' hb => t5.o1.rd.below hb
                        have HQW := Lib.hid qw
                        have HQA := Lib.hid qa
                        have hpf := HPF.out true
                        have hcc : s.now.b.length ≤ e1' := by assumption
                        have hz1 : (runS s.safe (s.us.take K)).b.length ≤ 65536 := HGC.out.now true
                        have hz2 : s.now.b.length ≤ 65536 := HGS.out.now true
                        simp only [Sd.get] at hpf
                        clear t1 t2 t3 t4 t5 t6 qw qa HRD0
                        go_wp2_with fail
                        refine HRD.out.mono ?_
                        rintro e w5 ⟨A5, c5, rfl, own5, hg5, hb5⟩
                        have HS5 := Lib.hid (HS4.out.below hb5)
                        have qw := HQW.out w5 hb5
                        have qa := HQA.out w5 hb5
                        have hrda := (HPA.out w5 hb5).take (runS s.safe (s.us.take K)).b.length
                        rw [← bvals_take, hpf.2.2] at hrda
                        have hs := same_any A5 U1 c5 e1' (runS s.safe (s.us.take K)).b (runS s.safe (s.us.take K)).b w5 own5.rd hrda (by omega) (by omega)
                        rw [sameB_self] at hs
                        have HS := Lib.hid hs
                        have g1 : ¬ (((runS s.safe (s.us.take K)).b.length : Int) < (s1.now.b.length : Int)) := by omega
                        have g2 : ¬ ((s.now.b.length : Int) < ((runS s.safe (s.us.take K)).b.length : Int)) := by omega
                        have g3 : ((runS s.safe (s.us.take K)).b.length : Int) ≤ (e1' : Int) := by omega
                        clear own5 hg5 hb5 HRD HS4 hs hrda hpf HQW HQA HPA
                        generalize (runS s.safe (s.us.take K)).b.length = nb at *
                        generalize s1.now.b.length = nw at *
                        generalize s.now.b.length = na at *
                        go_wp2_with fail
                        refine HS.out.mono ?_
                        rintro e w7 ⟨rfl, nd, rfl⟩
                        have HS7 := Lib.hid (HS5.out.below (Below.drewN_ (Below.refl _ _) nd))
                        clear HS HS5 qw qa
                        generalize w5.drewN nd = w7 at *
                        go_wp2_with fail
                        go_roundw
                        case rel => exact ⟨.inr (.inr (by go_num)), HS7.out⟩
                        case measure => simp [intOf]
                      · obtain ⟨F6, Y0, d0', Y1, d1', u0', u1', t1, t2, t3, t4, t5, t6⟩ := HS4.out
                        have HU := Lib.hid (units_any t1)
                        rw [show (s.crashed K).us.length = 0 from rfl] at HU
                        clear t1 t2 t3 t4 t5 t6
                        go_wp2_with fail
                        refine HU.out.mono ?_
                        rintro e w' ⟨rfl, rfl⟩
                        go_wp2_with fail
                        refine (lives_any wr).mono ?_
                        rintro e w9 ⟨rfl, hb9⟩
                        have HB9 : Hid (Below w.heap.size w w9) := HS4.out.bel.trans (hb9.mono HS4.out.bel.size)
                        clear hb9
                        go_wp2_with fail
                        go_ret
                        exact ⟨rfl, HB9.out⟩
end Go.Proofs.Ytpcmfbdlfjlobaa
