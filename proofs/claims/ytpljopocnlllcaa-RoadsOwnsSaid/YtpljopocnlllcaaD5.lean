/- does: Take. -/
import Derived.Test.YtpljopocnlllcaaD4
namespace Go.Proofs.Ytpljopocnlllcaa
open Go.RowKit
attribute [local go_sem ↓] Go.wp_at_zero Go.wp_at_succ
set_option maxRecDepth 100000 in
set_option maxHeartbeats 4000000 in
theorem does_take {B : Nat} {w : World} {p q : Nat} {s : St} {F G : Nat → Prop} (d : Dd) (h : Two B w p q s s F G) (hf : s.fine) (hd : d.ok w) (hfar : ∀ a, d.sa = some a → d.sk ≠ [] → ¬ F a.block ∧ ¬ G a.block) (hfd : ∀ a, d.da = some a → d.bs ≠ [] → ¬ F a.block ∧ ¬ G a.block) (hkind : pickF d.kind 4 = 2) :
    Calls Try.prog 10 #[.pointer (some ⟨p, 0, none⟩), .pointer (some ⟨q, 0, none⟩), .agg d.cells.toArray] w (Acted B p q F G w) := by
  have HT := Lib.hid h
  obtain ⟨kind, N, to, place, sa, sk, sc, da, bs, dc, stays⟩ := d
  have HOK := Lib.hid hd
  have HFAR := Lib.hid hfar
  have HFD := Lib.hid hfd
  clear h hd hfar hfd
  rw [show (Dd.cells ⟨kind, N, to, place, sa, sk, sc, da, bs, dc, stays⟩).toArray = #[.int .i64 kind, .int .i64 N, .int .i64 to, .int .i64 place, .slice sa sk.length sc, .slice da bs.length dc, .bool stays] from rfl]
  generalize hsl : sk.length = skl at *
  generalize hbl : bs.length = bsl at *
  have HSL := Lib.hid hsl
  have HBL := Lib.hid hbl
  clear hsl hbl
  go_enter Try.func10, Try.ntmps10
  go_wp2_with fail
  rw [← HSL.out, ← HBL.out]
  have HOK1 : Hid (Dd.ok (w.alloc (.cells #[.int .i64 kind, .int .i64 N, .int .i64 to, .int .i64 place, .slice sa sk.length sc, .slice da bs.length dc, .bool stays] 32)) ⟨kind, N, to, place, sa, sk, sc, da, bs, dc, stays⟩) := HOK.out.below ((Below.refl _ _).alloc (Nat.le_refl _) _)
  refine (cut_any ⟨kind, N, to, place, sa, sk, sc, da, bs, dc, stays⟩ _ HOK1.out).mono ?_
  rintro e w2 ⟨rfl, hb2⟩
  rw [show (Dd.cut ⟨kind, N, to, place, sa, sk, sc, da, bs, dc, stays⟩).cells.toArray = #[.int .i64 kind, .int .i64 N, .int .i64 to, .int .i64 place, .slice sa (sk.take 20).length sc, .slice da (bs.take 20).length dc, .bool stays] from rfl]
  have HBX : Hid (Blk w2 w.heap.size 32 [.int .i64 kind, .int .i64 N, .int .i64 to, .int .i64 place, .slice sa sk.length sc, .slice da bs.length dc, .bool stays]) := (Blk.new w 32 _).below hb2 (by simp)
  have x0 := HBX.out.cell 0
  have x1 := HBX.out.cell 1
  have x2 := HBX.out.cell 2
  have x3 := HBX.out.cell 3
  have x4 := HBX.out.cell 4
  have x5 := HBX.out.cell 5
  have x6 := HBX.out.cell 6
  have f0 := HBX.out.frozen 0
  have f1 := HBX.out.frozen 1
  have f2 := HBX.out.frozen 2
  have f3 := HBX.out.frozen 3
  have f4 := HBX.out.frozen 4
  have f5 := HBX.out.frozen 5
  have f6 := HBX.out.frozen 6
  generalize hQ : w.heap.size = Q at *
  have HQ := Lib.hid hQ
  clear hQ
  have HSK : Hid ((sk.take 20).length ≤ 20 ∧ (bs.take 20).length ≤ 20) := ⟨by simp; omega, by simp; omega⟩
  generalize hs2 : sk.take 20 = sk2 at *
  generalize hb2' : bs.take 20 = bs2 at *
  have HS2 := Lib.hid hs2
  have HB2' := Lib.hid hb2'
  clear hs2 hb2'
  have HB2 : Hid (Below Q w w2) := by
    rw [← HQ.out]
    exact ((Below.refl _ _).alloc (Nat.le_refl _) _).trans (hb2.mono (by simp))
  have HB3 : Hid (Below Q w (((((((w2.setCell ⟨Q, 0, none⟩ (.int .i64 kind)).setCell ⟨Q, 1, none⟩ (.int .i64 N)).setCell ⟨Q, 2, none⟩ (.int .i64 to)).setCell ⟨Q, 3, none⟩ (.int .i64 place)).setCell ⟨Q, 4, none⟩ (.slice sa sk2.length sc)).setCell ⟨Q, 5, none⟩ (.slice da bs2.length dc)).setCell ⟨Q, 6, none⟩ (.bool stays))) := by
    have LB2 := HB2.out
    exact (Below.setCell (Below.setCell (Below.setCell (Below.setCell (Below.setCell (Below.setCell (Below.setCell LB2 (Nat.le_refl _) _) (Nat.le_refl _) _) (Nat.le_refl _) _) (Nat.le_refl _) _) (Nat.le_refl _) _) (Nat.le_refl _) _) (Nat.le_refl _) _)
  have HBX3 : Hid (Blk (((((((w2.setCell ⟨Q, 0, none⟩ (.int .i64 kind)).setCell ⟨Q, 1, none⟩ (.int .i64 N)).setCell ⟨Q, 2, none⟩ (.int .i64 to)).setCell ⟨Q, 3, none⟩ (.int .i64 place)).setCell ⟨Q, 4, none⟩ (.slice sa sk2.length sc)).setCell ⟨Q, 5, none⟩ (.slice da bs2.length dc)).setCell ⟨Q, 6, none⟩ (.bool stays)) Q 32 [.int .i64 kind, .int .i64 N, .int .i64 to, .int .i64 place, .slice sa sk2.length sc, .slice da bs2.length dc, .bool stays]) := (((((((HBX.out.set_ 0 _).set_ 1 _).set_ 2 _).set_ 3 _).set_ 4 _).set_ 5 _).set_ 6 _)
  have hz : Q ≤ w.heap.size := by rw [HQ.out]; exact Nat.le_refl _
  have HT3 : Hid (Two B (((((((w2.setCell ⟨Q, 0, none⟩ (.int .i64 kind)).setCell ⟨Q, 1, none⟩ (.int .i64 N)).setCell ⟨Q, 2, none⟩ (.int .i64 to)).setCell ⟨Q, 3, none⟩ (.int .i64 place)).setCell ⟨Q, 4, none⟩ (.slice sa sk2.length sc)).setCell ⟨Q, 5, none⟩ (.slice da bs2.length dc)).setCell ⟨Q, 6, none⟩ (.bool stays)) p q s s F G) := HT.out.below (below_at HB3.out HQ.out)
  have HRS3 : Hid (Rd (((((((w2.setCell ⟨Q, 0, none⟩ (.int .i64 kind)).setCell ⟨Q, 1, none⟩ (.int .i64 N)).setCell ⟨Q, 2, none⟩ (.int .i64 to)).setCell ⟨Q, 3, none⟩ (.int .i64 place)).setCell ⟨Q, 4, none⟩ (.slice sa sk2.length sc)).setCell ⟨Q, 5, none⟩ (.slice da bs2.length dc)).setCell ⟨Q, 6, none⟩ (.bool stays)) sa (ivals sk2)) := by
    have := HOK.out.cut.rs
    simp only [Dd.cut, HS2.out] at this
    exact this.below (below_at HB3.out HQ.out)
  have HRD3 : Hid (Rd (((((((w2.setCell ⟨Q, 0, none⟩ (.int .i64 kind)).setCell ⟨Q, 1, none⟩ (.int .i64 N)).setCell ⟨Q, 2, none⟩ (.int .i64 to)).setCell ⟨Q, 3, none⟩ (.int .i64 place)).setCell ⟨Q, 4, none⟩ (.slice sa sk2.length sc)).setCell ⟨Q, 5, none⟩ (.slice da bs2.length dc)).setCell ⟨Q, 6, none⟩ (.bool stays)) da (bvals bs2)) := by
    have := HOK.out.cut.rd
    simp only [Dd.cut, HB2'.out] at this
    exact this.below (below_at HB3.out HQ.out)
  have HFAR3 : Hid (∀ a, sa = some a → sk2 ≠ [] → ¬ F a.block ∧ ¬ G a.block) := fun a ha hne => HFAR.out a ha (fun e => hne (by
    have h1 := HS2.out
    rw [← h1, e]
    rfl))
  have HFD3 : Hid (∀ a, da = some a → bs2 ≠ [] → ¬ F a.block ∧ ¬ G a.block) := fun a ha hne => HFD.out a ha (fun e => hne (by
    have h1 := HB2'.out
    rw [← h1, e]
    rfl))
  have HQF : Hid (¬ F Q) := fun hF => by have := HT.out.rp.lt _ hF; have := HQ.out; omega
  have HQG : Hid (¬ G Q) := fun hG => by have := HT.out.rq.lt _ hG; have := HQ.out; omega
  have HKD : Hid (-9223372036854775808 ≤ kind ∧ kind ≤ 9223372036854775807) := ⟨HOK.out.k0, HOK.out.k1⟩
  have HBQ : Hid (B ≤ Q) := by have := HT.out.lo; have := HQ.out; unfold Hid; omega
  clear HOK HOK1 HFAR HFD hb2 HBX HB2 HS2 HB2' HSL HBL hz
  go_wp2_with fail
  generalize hW3 : (((((((w2.setCell ⟨Q, 0, none⟩ (.int .i64 kind)).setCell ⟨Q, 1, none⟩ (.int .i64 N)).setCell ⟨Q, 2, none⟩ (.int .i64 to)).setCell ⟨Q, 3, none⟩ (.int .i64 place)).setCell ⟨Q, 4, none⟩ (.slice sa sk2.length sc)).setCell ⟨Q, 5, none⟩ (.slice da bs2.length dc)).setCell ⟨Q, 6, none⟩ (.bool stays)) = W3 at *
  clear hW3 x0 x1 x2 x3 x4 x5 x6 f0 f1 f2 f3 f4 f5 f6
  have hp4 := pick_lt kind 4 (by omega)
  refine (pick_any kind 4 W3 HKD.out.1 HKD.out.2 (by omega) (by omega)).mono ?_
  rintro e w' ⟨rfl, rfl⟩
  have HTd : Hid (Two B W3.drew p q s s F G) := HT3.out.drewN 1
  have HBXd : Hid (Blk W3.drew Q 32 [.int .i64 kind, .int .i64 N, .int .i64 to, .int .i64 place, .slice sa sk2.length sc, .slice da bs2.length dc, .bool stays]) := HBX3.out.drewN 1
  have HBd : Hid (Below Q w W3.drew) := Below.drewN_ HB3.out 1
  have HRSd : Hid (Rd W3.drew sa (ivals sk2)) := HRS3.out.drew
  have HRDd : Hid (Rd W3.drew da (bvals bs2)) := HRD3.out.drew
  have HZ : Hid (Q < W3.drew.heap.size) := HBXd.out.lt
  have y1 := HBX3.out.cell 1
  have y2 := HBX3.out.cell 2
  have y3 := HBX3.out.cell 3
  have y4 := HBX3.out.cell 4
  have y5 := HBX3.out.cell 5
  have y6 := HBX3.out.cell 6
  rw [show pickF kind 4 = 2 from hkind]
  clear hkind
  have z3 := HBX3.out.cell 3
  have z6 := HBX3.out.cell 6
  clear y1 y2 y3 y4 y5 y6
  by_cases hbad : badPlace s.ps.length place = true
  · have HTB := Lib.hid (take_bad place (.bool stays) HT3.out.rp hbad)
    have HLB := Lib.hid (rlook_bad place HT3.out.rq hbad)
    clear hbad
    go_wp2_with fail
    refine HTB.out.mono ?_
    rintro e w4 ⟨rfl, rfl⟩
    go_wp2_with fail
    refine HLB.out.mono ?_
    rintro e w5 ⟨rfl, hb5⟩
    have HB5 := Lib.hid hb5
    clear hb5
    go_wp2_with fail
    refine (same_any none none 0 0 [] [] _ (.inl rfl) (.inl rfl) (by simp) (by simp)).mono ?_
    rintro e w6 ⟨rfl, nd, rfl⟩
    rw [show sameB [] [] = true from rfl]
    have HBF : Hid (Below W3.heap.size W3 ((w5.alloc (.cells #[.int .i64 0, .slice none 0 0] 57)).drewN nd)) := Below.drewN_ (HB5.out.alloc HB5.out.size _) nd
    go_wp2_with fail
    go_ret
    exact ⟨rfl, ⟨_, _, _, HT3.out.below HBF.out, hf, Grew.refl _ _, Grew.refl _ _⟩, (HB3.out.mono HBQ.out).trans (HBF.out.mono HT3.out.lo), kept_fg HB3.out HQ.out (Kept.of_below _ HBF.out) (Kept.refl _ _)⟩
  · obtain ⟨k, rfl, hk⟩ := good_place hbad
    obtain ⟨⟨to2, bs3⟩, hx⟩ : ∃ y, s.ps[k] = y := ⟨_, rfl⟩
    have HPK : Hid (s.ps[k]? = some (to2, bs3)) := by unfold Hid; rw [List.getElem?_eq_getElem hk, hx]
    have hbs : bs3.length ≤ 1000 := hf.small (to2, bs3) (List.mem_of_getElem? HPK.out)
    have hp1 := hf.good.p1
    have hne : (to2 == to2) = true := by simp
    clear hx hbad
    all_goals
      go_wp2_with fail
      refine (take_any k stays to2 bs3 HT3.out.rp hf.good HPK.out hbs).mono ?_
      rintro e w5 ⟨A5, c5, F5, rfl, r5, l5, m5, g5, rep5, k5, gr5⟩
      obtain ⟨two5, bel5⟩ := Took.two (HT3.out) rep5 k5 gr5
      have HT5 := Lib.hid two5
      have HB5 : Hid (Below B w w5) := (HB3.out.mono HBQ.out).trans bel5
      have HBX5 : Hid (Blk w5 Q 32 [.int .i64 kind, .int .i64 N, .int .i64 to, .int .i64 (k : Int), .slice sa sk2.length sc, .slice da bs2.length dc, .bool stays]) := (k5.block HBX3.out.lt HQF.out).trans HBX3.out
      have HR5 := Lib.hid r5
      have HG5 : Hid (Grew F F5 W3) := gr5
      have HKF5 := Lib.hid k5
      have HA5 : Hid (∀ a, A5 = some a → ¬ G a.block) := fun a ha hG => by have h1 := (g5 a ha).1; have h2 := HT3.out.rq.lt _ hG; omega
      have HS5 : Hid (W3.heap.size ≤ w5.heap.size) := k5.size
      have HQ5 : Hid (q < w5.heap.size) := HT5.out.rq.lt _ (Rep.fp_p HT5.out.rq)
      have HLO5 : Hid (B ≤ w5.heap.size) := HT5.out.lo
      have u3 := HBX5.out.cell 3
      have u6 := HBX5.out.cell 6
      clear r5 g5 rep5 k5 gr5 two5 bel5 z3 z6
      go_wp2_with fail
      refine (rlook_any k to2 bs3 HT5.out.rq HPK.out hp1).mono ?_
      rintro e w6 ⟨A6, c6, rfl, r6, g6, b6⟩
      have HB6 := Lib.hid b6
      have HR6 := Lib.hid r6
      have HA6 := Lib.hid g6
      clear r6 g6 b6
      have HBX6 : Hid (Blk w6 Q 32 [.int .i64 kind, .int .i64 N, .int .i64 to, .int .i64 (k : Int), .slice sa sk2.length sc, .slice da bs2.length dc, .bool stays]) := HBX5.out.below HB6.out HBX5.out.lt
      have hal : ∀ o, Blk (w6.alloc o) Q 32 [.int .i64 kind, .int .i64 N, .int .i64 to, .int .i64 (k : Int), .slice sa sk2.length sc, .slice da bs2.length dc, .bool stays] := fun o => HBX6.out.alloc o
      have v3 : ∀ o, (w6.alloc o).cell? ⟨Q, 3, none⟩ = some (.int .i64 (k : Int)) := fun o => (hal o).cell 3
      have v6 : ∀ o, (w6.alloc o).cell? ⟨Q, 6, none⟩ = some (.bool stays) := fun o => (hal o).cell 6
      clear hal u3 u6
      have HW7 : Hid (Below w5.heap.size w5 (w6.alloc (.cells #[.int .i64 to2, .slice A6 bs3.length c6] 57))) := HB6.out.alloc HB6.out.size _
      have HX7 : Hid (Blk (w6.alloc (.cells #[.int .i64 to2, .slice A6 bs3.length c6] 57)) w6.heap.size 57 [.int .i64 to2, .slice A6 bs3.length c6]) := Blk.new w6 57 _
      have HR57 : Hid (Rd (w6.alloc (.cells #[.int .i64 to2, .slice A6 bs3.length c6] 57)) A5 (bvals bs3)) := HR5.out.below HW7.out
      have HR67 : Hid (Rd (w6.alloc (.cells #[.int .i64 to2, .slice A6 bs3.length c6] 57)) A6 (bvals bs3)) := HR6.out.alloc _
      have HGR : Hid (¬ G w6.heap.size) := fun hG => by have h1 := HT3.out.rq.lt _ hG; have h2 := HS5.out; have h3 := HB6.out.size; omega
      have HQW : Hid (Q < W3.heap.size) := HBX3.out.lt
      cases stays
      · have HT7 : Hid (Two B (w6.alloc (.cells #[.int .i64 to2, .slice A6 bs3.length c6] 57)) p q ⟨s.time, s.clocks, s.ps.eraseIdx k⟩ s F5 G) := by
          have := HT5.out.below HW7.out
          simp only [Bool.false_eq_true, if_false] at this
          exact this
        clear HT5 HR5 HR6 HBX5 HBX6
        have x70 := HX7.out.cell 0
        have x71 := HX7.out.cell 1
        go_wp2_with fail
        generalize hW7 : w6.alloc (.cells #[.int .i64 to2, .slice A6 bs3.length c6] 57) = W7 at *
        generalize w6.heap.size = R at *
        clear hW7 v3 v6
        refine (rdrop_any k HT7.out.rq hk hp1).mono ?_
        rintro e w8 ⟨rfl, G8, hr8, hk8', hg8⟩
        have hk8 := hk8'.mono HT7.out.rq.fp_sub
        have HT8 : Hid (Two B w8 p q ⟨s.time, s.clocks, s.ps.eraseIdx k⟩ ⟨s.time, s.clocks, s.ps.eraseIdx k⟩ F5 G8) := HT7.out.right hr8 hk8 hg8
        have HX8 : Hid (Blk w8 R 57 [.int .i64 to2, .slice A6 bs3.length c6]) := (hk8.block HX7.out.lt HGR.out).trans HX7.out
        have HR58 : Hid (Rd w8 A5 (bvals bs3)) := HR57.out.kept hk8 HA5.out
        have HR68 : Hid (Rd w8 A6 (bvals bs3)) := HR67.out.kept hk8' (fun a ha hb => by
          obtain ⟨hG, hq, hu⟩ := HA6.out a ha
          rcases hb with hb | ⟨u, hu1, hu2⟩
          · exact hq hb
          · exact hu u ((HW7.out.cell (p := ⟨q, 2, none⟩) HQ5.out).symm.trans hu1) hu2)
        have HB8 : Hid (Below B w w8) := (HB5.out.trans (HW7.out.mono HLO5.out)).trans (hk8.below HT7.out.loG HT7.out.lo)
        have HG8 : Hid (Grew G G8 W7) := hg8
        have HKG8 := Lib.hid hk8
        have x80 := HX8.out.cell 0
        have x81 := HX8.out.cell 1
        clear hr8 hk8 hk8' hg8 x70 x71
        go_wp2_with fail
        have hs := same_any A5 A6 c5 c6 bs3 bs3 w8 HR58.out HR68.out (by omega) (by omega)
        rw [sameB_self] at hs
        refine hs.mono ?_
        rintro e w9 ⟨rfl, nd, rfl⟩
        have HT9 := Lib.hid (HT8.out.drewN nd)
        have HB9 := Lib.hid (Below.drewN_ HB8.out nd)
        have HKA := Lib.hid ((kept_fg HB3.out HQ.out (kept_b HKF5.out HW7.out) HKG8.out).drewN nd)
        have x90 : (w8.drewN nd).cell? ⟨R, 0, none⟩ = some (.int .i64 to2) := x80
        generalize w8.drewN nd = w9 at *
        go_wp2_with fail
        go_ret
        exact ⟨rfl, ⟨_, _, _, HT9.out, erase_fine hf k, grew_at HG5.out HQW.out HQ.out, grew_at HG8.out (Nat.lt_of_lt_of_le HQW.out (Nat.le_trans HS5.out HW7.out.size)) HQ.out⟩, HB9.out, HKA.out⟩
      · have HT5t : Hid (Two B w5 p q s s F5 G) := by
          have := HT5.out
          simp only [if_true] at this
          exact this
        clear HT5 HR5 HR6 HBX5 HBX6
        have x70 := HX7.out.cell 0
        have x71 := HX7.out.cell 1
        go_wp2_with fail
        generalize hW7 : w6.alloc (.cells #[.int .i64 to2, .slice A6 bs3.length c6] 57) = W7 at *
        generalize w6.heap.size = R at *
        clear hW7 v3 v6
        have hs := same_any A5 A6 c5 c6 bs3 bs3 W7 HR57.out HR67.out (by omega) (by omega)
        rw [sameB_self] at hs
        refine hs.mono ?_
        rintro e w9 ⟨rfl, nd, rfl⟩
        have HBF : Hid (Below w5.heap.size w5 (W7.drewN nd)) := Below.drewN_ HW7.out nd
        have x90 : (W7.drewN nd).cell? ⟨R, 0, none⟩ = some (.int .i64 to2) := x70
        generalize W7.drewN nd = w9 at *
        go_wp2_with fail
        go_ret
        exact ⟨rfl, ⟨_, _, _, HT5t.out.below HBF.out, hf, grew_at HG5.out HQW.out HQ.out, Grew.refl _ _⟩, HB5.out.trans (HBF.out.mono HLO5.out), kept_fg HB3.out HQ.out (kept_b HKF5.out HBF.out) (Kept.refl _ _)⟩
end Go.Proofs.Ytpljopocnlllcaa
