/- The walk of TapeDown: once the power is gone nothing is done till the crash. -/
import Derived.Test.YtpcmfbdlfjlobaaP3
namespace Go.Proofs.Ytpcmfbdlfjlobaa
open Go.RowKit
set_option linter.unusedVariables false
attribute [local go_sem ↓] Go.wp_at_zero Go.wp_at_succ
structure Down (s : TSt) (n : Nat) : Prop where
  good : s.good
  b : s.burns = true
  l : s.left = 0
  u : s.us.length = n
theorem Down.fuse {s : TSt} {n : Nat} (h : Down s n) (k : Int) : Down (opF s k).2 n := by
  unfold opF
  split
  · exact h
  · rename_i hk
    refine ⟨h.good.fused (by omega) (by omega), rfl, ?_, h.u⟩
    show (if s.burns = true then min k s.left else k) = 0
    rw [if_pos h.b, h.l]
    omega
theorem Down.start {s : TSt} (h : s.good) : Down (s.fused 0) s.us.length := by
  refine ⟨h.fused (by omega) (by omega), rfl, ?_, rfl⟩
  show (if s.burns = true then min 0 s.left else 0) = 0
  split
  · rename_i hb
    have := (h.l0 hb).1
    omega
  · rfl
theorem Down.rdy {s : TSt} {n : Nat} (h : Down s n) (side : Int) : rdyN s side = if side < 0 ∨ 1 < side then 1 else 40 := by
  unfold rdyN
  rw [if_pos (show s.burns = true ∧ s.left = 0 from ⟨h.b, h.l⟩)]
theorem Go2.fuseA {w0 w : World} {p : Nat} {s : TSt} {A : Option Addr} {bs : List UInt8} (h : Go2 w0 w p s A bs) (n : Int) :
    Calls Try.prog 23 #[.pointer (some ⟨p, 0, none⟩), .int .i64 n] w fun e w' => e = .returned (.int .i64 (opF s n).1) ∧ Go2 w0 w' p (opF s n).2 A bs := by
  obtain ⟨F, ht, hb0, hl, hr0, ha⟩ := h
  exact (fuse_all n ht).mono fun e w' ⟨he, F', ht', hk, hg'⟩ => ⟨he, Go2.after ht hb0 hl hr0 ha ht' hk hg'⟩
theorem Go2.unitsA {w0 w : World} {p : Nat} {s : TSt} {A : Option Addr} {bs : List UInt8} (h : Go2 w0 w p s A bs) : Calls Try.prog 17 #[.pointer (some ⟨p, 0, none⟩)] w fun e w' => e = .returned (.int .i64 (s.us.length : Int)) ∧ w = w' := by
  obtain ⟨F, ht, hb0, hl, hr, ha⟩ := h
  exact units_any ht
theorem Go2.rdys {w0 w : World} {p : Nat} {s : TSt} {A : Option Addr} {bs : List UInt8} (h : Go2 w0 w p s A bs) (side : Int) (hr : rdyN s side ≠ 0) :
    (∀ v, Calls Try.prog 15 #[.pointer (some ⟨p, 0, none⟩), .int .i64 side, v] w fun e w' => e = .returned (.int .i64 (rdyN s side)) ∧ w = w') ∧ (∀ v, Calls Try.prog 24 #[.pointer (some ⟨p, 0, none⟩), .int .i64 side, v] w fun e w' => e = .returned (.int .i64 (rdyN s side)) ∧ w = w') ∧ Calls Try.prog 25 #[.pointer (some ⟨p, 0, none⟩), .int .i64 side] w fun e w' => e = .returned (.int .i64 (rdyN s side)) ∧ w = w' := by
  obtain ⟨F, ht, hb0, hl, hr0, ha⟩ := h
  exact ⟨fun v => write_rdy side v ht hr, fun v => trim_rdy side v ht hr, clear_rdy side ht hr⟩
theorem Two.go2 {w0 w : World} {p q : Nat} {s t : TSt} {F G : Nat → Prop} (h : Two w0.heap.size w p q s t F G) (hb : Below w0.heap.size w0 w) : Go2 w0 w p s none [] := ⟨F, h.rp, hb, h.loF, Rd.nil _ _, fun a ha => by cases ha⟩
theorem deed_at2 {w wr : World} {A : Option Addr} {l : List Dd} {k : Nat} (hd : DeedsAt w A l) (hk : k < l.length) (hb : Below w.heap.size w wr) :
    ∃ (d : Dd) (b off : Nat), A = some ⟨b, off, none⟩ ∧ d.ok wr ∧ (∀ j v, d.cells[j]? = some v → wr.cell? ⟨b, off + k * 4 + j, none⟩ = some v) := by
  obtain ⟨b, off, rfl, hbl, hc, hok⟩ := hd.at_ k hk
  exact ⟨l[k], b, off, rfl, hok.below hb, fun j v hv => (World.cell?_of_block (w := w) (a := ⟨b, off + k * 4 + j, none⟩) (hb.block b hbl)).trans (hc j v hv)⟩
def InvDn (w : World) (p m n : Nat) (i : Value) (wr : World) : Prop := ∃ (k : Nat) (s : TSt), k ≤ m ∧ k ≤ 25 ∧ i = .int .i64 (k : Int) ∧ Go2 w wr p s none [] ∧ Down s n
set_option maxRecDepth 100000 in
set_option maxHeartbeats 16000000 in
theorem down_any (A : Option Addr) (c : Nat) (l : List Dd) (A2 : Option Addr) (c2 : Nat) (l2 : List Dd) (w : World) (h : DeedsAt w A l) (h2 : DeedsAt w A2 l2) (hl : l.length ≤ maxLen) (hl2 : l2.length ≤ maxLen) :
    Calls Try.prog 7 #[.slice A l.length c, .slice A2 l2.length c2] w (Lived w) := by
  unfold maxLen at hl2
  generalize hn2 : l2.length = m2 at hl2 ⊢
  have HN2 := Lib.hid hn2
  have HD2 := Lib.hid h2
  clear hn2 h2
  unfold maxLen at hl
  generalize hn : l.length = m at hl ⊢
  have HN := Lib.hid hn
  have HD := Lib.hid h
  clear hn h
  go_enter Try.func7, Try.ntmps7
  go_wp2_with fail
  refine (new_any w).mono ?_
  rintro e w1 ⟨p, F, rfl, hr1, hlo1, hb1⟩
  have HR1 := Lib.hid hr1
  have HK1 := Lib.hid hb1
  have HL1 := Lib.hid hlo1
  clear hr1 hb1 hlo1
  go_wp2_with fail
  refine (rnew_any w1).mono ?_
  rintro e w2 ⟨q, G, rfl, hr2, hlo2, hb2⟩
  have HT2 : Hid (Two w.heap.size w2 p q t0 t0 F G) := two_new HR1.out HL1.out HK1.out hr2 hlo2 hb2
  have HB2 : Hid (Below w.heap.size w w2) := HK1.out.trans (hb2.mono HK1.out.size)
  clear hr2 hlo2 hb2 HR1 HK1 HL1
  go_wp2_with fail
  go_loopw [7] (fun i wr => InvPl w.heap.size w p q m 25 i wr) (fun i _ => 25 - (intOf i).toNat)
  case atStart => exact ⟨0, t0, F, G, by omega, by omega, rfl, HT2.out, t0_good, by simp [t0], HB2.out⟩
  case round =>
    clear HT2 HB2
    obtain ⟨k, s, F, G, hk, hk1, rfl, ht, hg, hus, hb⟩ := hrel
    have HT := Lib.hid ht
    have HG := Lib.hid hg
    have HB := Lib.hid hb
    have HUS : Hid (s.us.length ≤ 60 * k) := hus
    clear ht hg hb hus
    by_cases hlt : k < m ∧ k < 25
    · obtain ⟨hkn, hk100⟩ := hlt
      have hkn' : (k : Int) < (m : Int) := by omega
      have hk100' : (k : Int) < 25 := by omega
      obtain ⟨d, b, off, rfl, hok, hfar, _, hc⟩ := deed_at HD.out (by rw [HN.out]; exact hkn) HB.out rfl HT.out
      have x0 := hc 0 _ rfl
      have x1 := hc 1 _ rfl
      have x2 := hc 2 _ rfl
      have x3 := hc 3 _ rfl
      rw [Nat.add_zero] at x0
      have HDO := Lib.hid (acts_any d HT.out HG.out (by have := HUS.out; omega) hok hfar)
      clear hc hok hfar
      go_wp2_with fail
      refine HDO.out.mono ?_
      rintro e w3 ⟨rfl, ⟨s', F', G', ht', hg', hu', _, _⟩, hb', _⟩
      have HT3 := Lib.hid ht'
      have HG3 := Lib.hid hg'
      have HB3 : Hid (Below w.heap.size w w3) := HB.out.trans hb'
      have HU3 : Hid (s'.us.length ≤ 60 * (k + 1)) := by have := HUS.out; unfold Hid; omega
      clear ht' hg' hb' hu' x0 x1 x2 x3 HT HG HB HDO HUS
      go_wp2_with fail
      go_roundw
      case rel => exact ⟨k + 1, s', F', G', by omega, by omega, by go_num, HT3.out, HG3.out, HU3.out, HB3.out⟩
      case measure => simp [intOf]; omega
    · have hx : ¬ (k : Int) < (m : Int) ∨ ((k : Int) < (m : Int) ∧ ¬ (k : Int) < 25) := by omega
      have H0 := Lib.hid (HT.out.go2 HB.out)
      have HUN := Lib.hid (H0.out.unitsA)
      have HFU := Lib.hid (H0.out.fuse_ 0 (by omega) (by omega))
      have HDW := Lib.hid (Down.start HG.out)
      have hus : s.us.length ≤ 1000000 := by have := HUS.out; omega
      generalize s.us.length = n at *
      clear hlt hk hk1 HD HN hl HUS HT HB
      rcases hx with hx | ⟨hx, hx2⟩
      all_goals
        go_wp2_with fail
        refine HUN.out.mono ?_
        rintro e w' ⟨rfl, rfl⟩
        go_wp2_with fail
        refine HFU.out.mono ?_
        rintro e w4 ⟨rfl, h4⟩
        have H4 := Lib.hid h4
        clear h4 HFU HUN H0 hx
        go_wp2_with fail
        obtain ⟨wo, rfl⟩ : ∃ wo : World, wo = wr := ⟨_, rfl⟩
        go_loopw [9, 10, 11, 12, 13, 14, 15] (fun i _ _ _ _ _ _ wr => InvDn w p m2 n i wr) (fun i _ _ _ _ _ _ _ => 25 - (intOf i).toNat)
        case atStart => exact ⟨0, _, by omega, by omega, rfl, H4.out, HDW.out⟩
        case round =>
          clear H4 HDW
          obtain ⟨k, s, hk, hk1, rfl, hgo, hdw⟩ := hrel
          have HGO := Lib.hid hgo
          have HDN := Lib.hid hdw
          clear hgo hdw
          by_cases hlt : k < m2 ∧ k < 25
          · obtain ⟨hkn, hk25⟩ := hlt
            have hkn' : (k : Int) < (m2 : Int) := by omega
            have hk25' : (k : Int) < 25 := by omega
            obtain ⟨⟨kind, side, nn, da, bs, dc⟩, b, off, hA, hok, hc⟩ := deed_at2 HD2.out (by rw [HN2.out]; exact hkn) HGO.out.bel
            subst hA
            have x0 := hc 0 _ rfl
            have x1 := hc 1 _ rfl
            have x2 := hc 2 _ rfl
            have x3 := hc 3 _ rfl
            rw [Nat.add_zero] at x0
            have HOK := Lib.hid hok
            have HPK := Lib.hid (fun wx => pick_any kind 6 wx hok.k0.1 hok.k0.2 (by omega) (by omega))
            have hr6 := pick_lt kind 6 (by omega)
            have HG3 : Hid (Go2 w (wr.alloc (.cells #[.int .i64 kind, .int .i64 side, .int .i64 nn, .slice da bs.length dc] 30)) p s none []) := HGO.out.alloc _
            have HFW := Lib.hid (few_any da dc bs (wr.alloc (.cells #[.int .i64 kind, .int .i64 side, .int .i64 nn, .slice da bs.length dc] 30)).drew (hok.rd.alloc _).drew hok.ld hok.md)
            have HBX : Hid (Blk (wr.alloc (.cells #[.int .i64 kind, .int .i64 side, .int .i64 nn, .slice da bs.length dc] 30)) wr.heap.size 30 [.int .i64 kind, .int .i64 side, .int .i64 nn, .slice da bs.length dc]) := Blk.new wr 30 _
            clear hc hok
            generalize pickF kind 6 = r at *
            generalize bs.length = bl at *
            generalize (bs.take 60).length = b6 at *
            go_wp2_with fail
            generalize wr.heap.size = Q at *
            have z0 := HBX.out.cell 0
            have z1 := HBX.out.cell 1
            have z2 := HBX.out.cell 2
            have z3 := HBX.out.cell 3
            clear x0 x1 x2 x3 HOK HBX
            generalize hW3 : wr.alloc (.cells #[.int .i64 kind, .int .i64 side, .int .i64 nn, .slice da bl dc] 30) = W3 at *
            clear hW3
            refine (HPK.out _).mono ?_
            rintro e w' ⟨rfl, rfl⟩
            by_cases hr45 : r = 4 ∨ r = 5
            · have HFZ := Lib.hid (HG3.out.fuseA nn)
              have HDZ := Lib.hid (HDN.out.fuse nn)
              generalize (opF s nn).1 = fr at *
              rcases hr45 with rfl | rfl
              · go_wp2_with fail
                refine HFZ.out.mono ?_
                rintro e w5 ⟨rfl, h5⟩
                have H5 := Lib.hid h5
                clear h5 HFZ z0 z1 z2 z3 HFW HPK
                go_wp2_with fail
                go_roundw
                case rel => exact ⟨k + 1, _, by omega, by omega, by go_num, H5.out, HDZ.out⟩
                case measure => simp [intOf]; omega
              · go_wp2_with fail
                refine (HPK.out _).mono ?_
                rintro e w' ⟨rfl, rfl⟩
                go_wp2_with fail
                refine HFZ.out.mono ?_
                rintro e w5 ⟨rfl, h5⟩
                have H5 := Lib.hid h5
                clear h5 HFZ z0 z1 z2 z3 HFW HPK
                go_wp2_with fail
                go_roundw
                case rel => exact ⟨k + 1, _, by omega, by omega, by go_num, H5.out, HDZ.out⟩
                case measure => simp [intOf]; omega
            · have hb4 : ((r : Int) == 4) = false := by simp; omega
              have hb5 : ((r : Int) == 5) = false := by simp; omega
              have hS : rdyN s 0 = 40 := by rw [HDN.out.rdy]; rfl
              have HSY := HG3.out.sync_bad (by rw [hS]; decide)
              rw [hS] at HSY
              have HSY2 := Lib.hid HSY
              have hcs : (decide (side < 0) = true ∧ True ∧ rdyN s side = 1) ∨ (decide (side < 0) = false ∧ decide (1 < side) = true ∧ rdyN s side = 1) ∨ (decide (side < 0) = false ∧ decide (1 < side) = false ∧ rdyN s side = 40) := by
                by_cases h1 : side < 0
                · exact .inl ⟨by simpa using h1, trivial, by rw [HDN.out.rdy, if_pos (.inl h1)]⟩
                · by_cases h2 : 1 < side
                  · exact .inr (.inl ⟨by simpa using h1, by simpa using h2, by rw [HDN.out.rdy, if_pos (.inr h2)]⟩)
                  · exact .inr (.inr ⟨by simpa using h1, by simpa using h2, by rw [HDN.out.rdy, if_neg (by omega)]⟩)
              clear hS HSY hr45
              go_wp2_with fail
              refine (HPK.out _).mono ?_
              rintro e w' ⟨rfl, rfl⟩
              clear HPK
              go_wp2_with fail
              refine HSY2.out.mono ?_
              rintro e w' ⟨rfl, rfl⟩
              clear HSY2
              rcases hcs with ⟨s1, s2, s3⟩ | ⟨s1, s2, s3⟩ | ⟨s1, s2, s3⟩
              all_goals
                have HRS := (HG3.out.below (w' := W3.drew) (Below.drewN_ (Below.refl _ _) 1)).rdys side (by rw [s3]; decide)
                rw [s3] at HRS
                have HR1 := Lib.hid HRS.1
                have HR2 := Lib.hid HRS.2.1
                have HR3 := Lib.hid HRS.2.2
                clear HRS s3
                go_wp2_with fail
                refine still_lit (by kernel_rfl) (by kernel_rfl) ?_
                repeat (first | still_step | still_call (HFW.out.mono fun e w' ⟨h1, h2⟩ => ⟨h1, h2.symm⟩) | still_call ((HR1.out _).mono fun e w' ⟨h1, h2⟩ => ⟨h1, h2.symm⟩))
                refine wpStill_nil ?_
                have HG4 : Hid (Go2 w W3.drew p s none []) := HG3.out.below (Below.drewN_ (Below.refl _ _) 1)
                have u1 : W3.drew.cell? ⟨Q, 1, none⟩ = some (.int .i64 side) := z1
                have u2 : W3.drew.cell? ⟨Q, 2, none⟩ = some (.int .i64 nn) := z2
                clear HR1 z0 z1 z2 z3 HFW HG3
                generalize W3.drew = W4 at *
                go_wp2_with fail
                refine (HR2.out _).mono ?_
                rintro e w' ⟨rfl, rfl⟩
                go_wp2_with fail
                refine HR3.out.mono ?_
                rintro e w' ⟨rfl, rfl⟩
                clear HR2 HR3
                go_wp2_with fail
                go_roundw
                case rel => exact ⟨k + 1, _, by omega, by omega, by go_num, HG4.out, HDN.out⟩
                case measure => simp [intOf]; omega
          · have hx : ¬ (k : Int) < (m2 : Int) ∨ ((k : Int) < (m2 : Int) ∧ ¬ (k : Int) < 25) := by omega
            have HU := HGO.out.unitsA
            rw [HDN.out.u] at HU
            have HU2 := Lib.hid HU
            have hee : ((n : Int) == (n : Int)) = true := by simp
            clear hlt hk hk1 HD2 HN2 hl2 HU
            rcases hx with hx | ⟨hx, hx2⟩
            all_goals
              go_wp2_with fail
              refine HU2.out.mono ?_
              rintro e w' ⟨rfl, rfl⟩
              go_wp2_with fail
              refine (lives_any wr).mono ?_
              rintro e w8 ⟨rfl, hb8⟩
              have HB8 : Hid (Below w.heap.size w w8) := HGO.out.bel.trans (hb8.mono HGO.out.bel.size)
              clear hb8
              go_wp2_with fail
              go_ret
              exact ⟨rfl, HB8.out⟩
end Go.Proofs.Ytpcmfbdlfjlobaa
