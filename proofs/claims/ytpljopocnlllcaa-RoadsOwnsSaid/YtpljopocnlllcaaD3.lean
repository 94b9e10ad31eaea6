/- does: a deed, of both structures. -/
import Derived.Test.YtpljopocnlllcaaD2
import Derived.Test.YtpljopocnlllcaaC4
import Derived.Test.YtpljopocnlllcaaOR
namespace Go.Proofs.Ytpljopocnlllcaa
open Go.RowKit
attribute [local go_sem ↓] Go.wp_at_zero Go.wp_at_succ
def Acted (B : Nat) (p q : Nat) (F G : Nat → Prop) (w : World) (e : Ending) (w' : World) : Prop := e = .returned (.bool true) ∧ (∃ s' F' G', Two B w' p q s' s' F' G' ∧ s'.fine ∧ Grew F F' w ∧ Grew G G' w) ∧ Below B w w' ∧ Kept (fun k => F k ∨ G k) w w'
theorem kept_fg {w w1 w2 w3 : World} {Q : Nat} {F G : Nat → Prop} (h0 : Below Q w w1) (hq : w.heap.size = Q) (h1 : Kept F w1 w2) (h2 : Kept G w2 w3) : Kept (fun k => F k ∨ G k) w w3 := by
  subst hq
  refine ⟨h2.1.trans (h1.1.trans h0.os), h2.2.1.trans (h1.2.1.trans h0.tape), h2.2.2.1.trans (h1.2.2.1.trans h0.output), Nat.le_trans h0.size (Nat.le_trans h1.size h2.size), fun k hk hF => ?_⟩
  have hk1 := Nat.lt_of_lt_of_le hk h0.size
  exact (h2.block (Nat.lt_of_lt_of_le hk1 h1.size) (fun h => hF (.inr h))).trans ((h1.block hk1 (fun h => hF (.inl h))).trans (h0.block k hk))
theorem below_at {Q : Nat} {w w' : World} (h : Below Q w w') (e : w.heap.size = Q) : Below w.heap.size w w' := by rw [e]; exact h
theorem told_slice {w : World} {B n : Nat} {v : Value} {l : List Int} (h : w.ownsRow B 3 1 v n (ivals l)) : ∃ A c, v = .slice A n c ∧ Hid (Rd w A (ivals l) ∧ ∀ a, A = some a → B ≤ a.block) := by
  obtain ⟨A, c, rfl, _, _⟩ := own_slice h
  exact ⟨A, c, rfl, Rd.of_own h, fun a ha => by subst ha; exact (h.lt a.block rfl).1⟩
theorem Rd.kept0 {w w' : World} {F : Nat → Prop} {A : Option Addr} {l : List Int} (h : Rd w A (ivals l)) (hk : Kept F w w') (hA : ∀ a, A = some a → l ≠ [] → ¬ F a.block) : Rd w' A (ivals l) := by
  by_cases h0 : l = []
  · exact .inl (by rw [h0]; rfl)
  · exact h.kept hk fun a ha => hA a ha h0
theorem samei_told {s : St} {n : Int} {sk : List Int} (A B : Option Addr) (c d : Nat) (w : World) (ha : Rd w A (ivals (told n sk s.clocks.length))) (hb : Rd w B (ivals (told n sk s.clocks.length))) (hg : s.good) :
    Calls Try.prog 22 #[.slice A s.clocks.length c, .slice B s.clocks.length d] w fun e w' => e = .returned (.bool true) ∧ ∃ k, w' = w.drewN k := by
  have h1 := hg.n1
  have := samei_any A B c d (told n sk s.clocks.length) (told n sk s.clocks.length) w ha hb (by rw [told_length]; omega) (by rw [told_length]; omega)
  rw [told_length, sameI_self] at this
  exact this
set_option maxRecDepth 100000 in
set_option maxHeartbeats 4000000 in
theorem does_pass {B : Nat} {w : World} {p q : Nat} {s : St} {F G : Nat → Prop} (d : Dd) (h : Two B w p q s s F G) (hf : s.fine) (hd : d.ok w) (hfar : ∀ a, d.sa = some a → d.sk ≠ [] → ¬ F a.block ∧ ¬ G a.block) (hfd : ∀ a, d.da = some a → d.bs ≠ [] → ¬ F a.block ∧ ¬ G a.block) (hkind : pickF d.kind 4 = 0) :
    Calls Try.prog 10 #[.pointer (some ⟨p, 0, none⟩), .pointer (some ⟨q, 0, none⟩), .agg d.cells.toArray] w (Acted B p q F G w) := by
  have HT := Lib.hid h
  obtain ⟨kind, N, to, place, sa, sk, sc, da, bs, dc, stays⟩ := d
  have HOK := Lib.hid hd
  have HFAR := Lib.hid hfar
  have HFD := Lib.hid hfd
  clear h hd hfar hfd
  rw [show (Dd.cells ⟨kind, N, to, place, sa, sk, sc, da, bs, dc, stays⟩).toArray = #[.int .i64 kind, .int .i64 N, .int .i64 to, .int .i64 place, .slice sa sk.length sc, .slice da bs.length dc, .bool stays] from rfl]
  generalize hsl : sk.length = skl at *
  generalize hbl : bs.length = bsl at *
  have HSL := Lib.hid hsl
  have HBL := Lib.hid hbl
  clear hsl hbl
  go_enter Try.func10, Try.ntmps10
  go_wp2_with fail
  rw [← HSL.out, ← HBL.out]
  have HOK1 : Hid (Dd.ok (w.alloc (.cells #[.int .i64 kind, .int .i64 N, .int .i64 to, .int .i64 place, .slice sa sk.length sc, .slice da bs.length dc, .bool stays] 32)) ⟨kind, N, to, place, sa, sk, sc, da, bs, dc, stays⟩) := HOK.out.below ((Below.refl _ _).alloc (Nat.le_refl _) _)
  refine (cut_any ⟨kind, N, to, place, sa, sk, sc, da, bs, dc, stays⟩ _ HOK1.out).mono ?_
  rintro e w2 ⟨rfl, hb2⟩
  rw [show (Dd.cut ⟨kind, N, to, place, sa, sk, sc, da, bs, dc, stays⟩).cells.toArray = #[.int .i64 kind, .int .i64 N, .int .i64 to, .int .i64 place, .slice sa (sk.take 20).length sc, .slice da (bs.take 20).length dc, .bool stays] from rfl]
  have HBX : Hid (Blk w2 w.heap.size 32 [.int .i64 kind, .int .i64 N, .int .i64 to, .int .i64 place, .slice sa sk.length sc, .slice da bs.length dc, .bool stays]) := (Blk.new w 32 _).below hb2 (by simp)
  have x0 := HBX.out.cell 0
  have x1 := HBX.out.cell 1
  have x2 := HBX.out.cell 2
  have x3 := HBX.out.cell 3
  have x4 := HBX.out.cell 4
  have x5 := HBX.out.cell 5
  have x6 := HBX.out.cell 6
  have f0 := HBX.out.frozen 0
  have f1 := HBX.out.frozen 1
  have f2 := HBX.out.frozen 2
  have f3 := HBX.out.frozen 3
  have f4 := HBX.out.frozen 4
  have f5 := HBX.out.frozen 5
  have f6 := HBX.out.frozen 6
  generalize hQ : w.heap.size = Q at *
  have HQ := Lib.hid hQ
  clear hQ
  have HSK : Hid ((sk.take 20).length ≤ 20 ∧ (bs.take 20).length ≤ 20) := ⟨by simp; omega, by simp; omega⟩
  generalize hs2 : sk.take 20 = sk2 at *
  generalize hb2' : bs.take 20 = bs2 at *
  have HS2 := Lib.hid hs2
  have HB2' := Lib.hid hb2'
  clear hs2 hb2'
  have HB2 : Hid (Below Q w w2) := by
    rw [← HQ.out]
    exact ((Below.refl _ _).alloc (Nat.le_refl _) _).trans (hb2.mono (by simp))
  have HB3 : Hid (Below Q w (((((((w2.setCell ⟨Q, 0, none⟩ (.int .i64 kind)).setCell ⟨Q, 1, none⟩ (.int .i64 N)).setCell ⟨Q, 2, none⟩ (.int .i64 to)).setCell ⟨Q, 3, none⟩ (.int .i64 place)).setCell ⟨Q, 4, none⟩ (.slice sa sk2.length sc)).setCell ⟨Q, 5, none⟩ (.slice da bs2.length dc)).setCell ⟨Q, 6, none⟩ (.bool stays))) := by
    have LB2 := HB2.out
    exact (Below.setCell (Below.setCell (Below.setCell (Below.setCell (Below.setCell (Below.setCell (Below.setCell LB2 (Nat.le_refl _) _) (Nat.le_refl _) _) (Nat.le_refl _) _) (Nat.le_refl _) _) (Nat.le_refl _) _) (Nat.le_refl _) _) (Nat.le_refl _) _)
  have HBX3 : Hid (Blk (((((((w2.setCell ⟨Q, 0, none⟩ (.int .i64 kind)).setCell ⟨Q, 1, none⟩ (.int .i64 N)).setCell ⟨Q, 2, none⟩ (.int .i64 to)).setCell ⟨Q, 3, none⟩ (.int .i64 place)).setCell ⟨Q, 4, none⟩ (.slice sa sk2.length sc)).setCell ⟨Q, 5, none⟩ (.slice da bs2.length dc)).setCell ⟨Q, 6, none⟩ (.bool stays)) Q 32 [.int .i64 kind, .int .i64 N, .int .i64 to, .int .i64 place, .slice sa sk2.length sc, .slice da bs2.length dc, .bool stays]) := (((((((HBX.out.set_ 0 _).set_ 1 _).set_ 2 _).set_ 3 _).set_ 4 _).set_ 5 _).set_ 6 _)
  have hz : Q ≤ w.heap.size := by rw [HQ.out]; exact Nat.le_refl _
  have HT3 : Hid (Two B (((((((w2.setCell ⟨Q, 0, none⟩ (.int .i64 kind)).setCell ⟨Q, 1, none⟩ (.int .i64 N)).setCell ⟨Q, 2, none⟩ (.int .i64 to)).setCell ⟨Q, 3, none⟩ (.int .i64 place)).setCell ⟨Q, 4, none⟩ (.slice sa sk2.length sc)).setCell ⟨Q, 5, none⟩ (.slice da bs2.length dc)).setCell ⟨Q, 6, none⟩ (.bool stays)) p q s s F G) := HT.out.below (below_at HB3.out HQ.out)
  have HRS3 : Hid (Rd (((((((w2.setCell ⟨Q, 0, none⟩ (.int .i64 kind)).setCell ⟨Q, 1, none⟩ (.int .i64 N)).setCell ⟨Q, 2, none⟩ (.int .i64 to)).setCell ⟨Q, 3, none⟩ (.int .i64 place)).setCell ⟨Q, 4, none⟩ (.slice sa sk2.length sc)).setCell ⟨Q, 5, none⟩ (.slice da bs2.length dc)).setCell ⟨Q, 6, none⟩ (.bool stays)) sa (ivals sk2)) := by
    have := HOK.out.cut.rs
    simp only [Dd.cut, HS2.out] at this
    exact this.below (below_at HB3.out HQ.out)
  have HRD3 : Hid (Rd (((((((w2.setCell ⟨Q, 0, none⟩ (.int .i64 kind)).setCell ⟨Q, 1, none⟩ (.int .i64 N)).setCell ⟨Q, 2, none⟩ (.int .i64 to)).setCell ⟨Q, 3, none⟩ (.int .i64 place)).setCell ⟨Q, 4, none⟩ (.slice sa sk2.length sc)).setCell ⟨Q, 5, none⟩ (.slice da bs2.length dc)).setCell ⟨Q, 6, none⟩ (.bool stays)) da (bvals bs2)) := by
    have := HOK.out.cut.rd
    simp only [Dd.cut, HB2'.out] at this
    exact this.below (below_at HB3.out HQ.out)
  have HFAR3 : Hid (∀ a, sa = some a → sk2 ≠ [] → ¬ F a.block ∧ ¬ G a.block) := fun a ha hne => HFAR.out a ha (fun e => hne (by
    have h1 := HS2.out
    rw [← h1, e]
    rfl))
  have HFD3 : Hid (∀ a, da = some a → bs2 ≠ [] → ¬ F a.block ∧ ¬ G a.block) := fun a ha hne => HFD.out a ha (fun e => hne (by
    have h1 := HB2'.out
    rw [← h1, e]
    rfl))
  have HQF : Hid (¬ F Q) := fun hF => by have := HT.out.rp.lt _ hF; have := HQ.out; omega
  have HQG : Hid (¬ G Q) := fun hG => by have := HT.out.rq.lt _ hG; have := HQ.out; omega
  have HKD : Hid (-9223372036854775808 ≤ kind ∧ kind ≤ 9223372036854775807) := ⟨HOK.out.k0, HOK.out.k1⟩
  have HBQ : Hid (B ≤ Q) := by have := HT.out.lo; have := HQ.out; unfold Hid; omega
  clear HOK HOK1 HFAR HFD hb2 HBX HB2 HS2 HB2' HSL HBL hz
  go_wp2_with fail
  generalize hW3 : (((((((w2.setCell ⟨Q, 0, none⟩ (.int .i64 kind)).setCell ⟨Q, 1, none⟩ (.int .i64 N)).setCell ⟨Q, 2, none⟩ (.int .i64 to)).setCell ⟨Q, 3, none⟩ (.int .i64 place)).setCell ⟨Q, 4, none⟩ (.slice sa sk2.length sc)).setCell ⟨Q, 5, none⟩ (.slice da bs2.length dc)).setCell ⟨Q, 6, none⟩ (.bool stays)) = W3 at *
  clear hW3 x0 x1 x2 x3 x4 x5 x6 f0 f1 f2 f3 f4 f5 f6
  have hp4 := pick_lt kind 4 (by omega)
  refine (pick_any kind 4 W3 HKD.out.1 HKD.out.2 (by omega) (by omega)).mono ?_
  rintro e w' ⟨rfl, rfl⟩
  have HTd : Hid (Two B W3.drew p q s s F G) := HT3.out.drewN 1
  have HBXd : Hid (Blk W3.drew Q 32 [.int .i64 kind, .int .i64 N, .int .i64 to, .int .i64 place, .slice sa sk2.length sc, .slice da bs2.length dc, .bool stays]) := HBX3.out.drewN 1
  have HBd : Hid (Below Q w W3.drew) := Below.drewN_ HB3.out 1
  have HRSd : Hid (Rd W3.drew sa (ivals sk2)) := HRS3.out.drew
  have HRDd : Hid (Rd W3.drew da (bvals bs2)) := HRD3.out.drew
  have HZ : Hid (Q < W3.drew.heap.size) := HBXd.out.lt
  have y1 := HBX3.out.cell 1
  have y2 := HBX3.out.cell 2
  have y3 := HBX3.out.cell 3
  have y4 := HBX3.out.cell 4
  have y5 := HBX3.out.cell 5
  have y6 := HBX3.out.cell 6
  rw [show pickF kind 4 = 0 from hkind]
  clear hkind
  go_wp2_with fail
  go_region_held3 (fun w' => w'.cell? ⟨Q, 1, none⟩ = some (.int .i64 N) ∧ w'.cell? ⟨Q, 4, none⟩ = some (.slice sa sk2.length sc)) (go_keep) ((first
    | (go_at_call 13; refine (pass_any N sa sc sk2 HTd.out.rp hf.good HRSd.out (fun a ha hne => (HFAR3.out a ha hne).1) (by have := HSK.out.1; unfold maxLen; omega)).mono ?_; rintro e w4 ⟨v4, rfl, hv4, hr4, hk4⟩; have HT4 : Hid (Two B w4 p q (passSt s N sk2) s F G) := HTd.out.left hr4 hk4 (Grew.refl _ _); have HBX4 : Hid (Blk w4 Q 32 [.int .i64 kind, .int .i64 N, .int .i64 to, .int .i64 place, .slice sa sk2.length sc, .slice da bs2.length dc, .bool stays]) := (hk4.block HZ.out HQF.out).trans HBXd.out; obtain ⟨A4, c4, rfl, HR4⟩ := told_slice hv4; have HRS4 : Hid (Rd w4 sa (ivals sk2)) := Rd.kept0 HRSd.out hk4 (fun a ha hne => (HFAR3.out a ha hne).1); have HB4 : Hid (Below B w w4) := (HBd.out.mono HBQ.out).trans (hk4.below HTd.out.loF HTd.out.lo); have HK4 : Hid (W3.drew.heap.size ≤ w4.heap.size) := hk4.size; have HKF4 := Lib.hid hk4; have y14 := HBX4.out.cell 1; have y44 := HBX4.out.cell 4; clear hv4 hr4 hk4)
    | (go_at_call 23; refine (rpass_any N sa sc sk2 HT4.out.rq hf.good HRS4.out (fun a ha hne => (HFAR3.out a ha hne).2) (by have := HSK.out.1; unfold maxLen; omega)).mono ?_; rintro e w5 ⟨v5, rfl, hv5, hr5, hk5⟩; have HT5 : Hid (Two B w5 p q (passSt s N sk2) (passSt s N sk2) F G) := HT4.out.right hr5 hk5 (Grew.refl _ _); have HBX5 : Hid (Blk w5 Q 32 [.int .i64 kind, .int .i64 N, .int .i64 to, .int .i64 place, .slice sa sk2.length sc, .slice da bs2.length dc, .bool stays]) := (hk5.block (Nat.lt_of_lt_of_le HZ.out HK4.out) HQG.out).trans HBX4.out; obtain ⟨A5, c5, rfl, HR5⟩ := told_slice hv5; have HR45 : Hid (Rd w5 A4 (ivals (told N sk2 s.clocks.length))) := HR4.out.1.kept hk5 (fun a ha hG => by have h1 := HR4.out.2 a ha; have h2 := HTd.out.rq.lt _ hG; omega); have HB5 : Hid (Below B w w5) := HB4.out.trans (hk5.below HT4.out.loG HT4.out.lo); have HKG5 := Lib.hid hk5; have y15 := HBX5.out.cell 1; have y45 := HBX5.out.cell 4; clear hv5 hr5 hk5)
    | (go_at_call 22; have HSM := samei_told A4 A5 c4 c5 w5 HR45.out HR5.out.1 hf.good; refine HSM.mono ?_; rintro e w6 ⟨rfl, nd, rfl⟩; have HT6 := Lib.hid (HT5.out.drewN nd); have HB6 := Lib.hid (Below.drewN_ HB5.out nd); have HKA := Lib.hid ((kept_fg HBd.out HQ.out HKF4.out HKG5.out).drewN nd)))) 
  go_wp2_with fail
  go_ret
  exact ⟨rfl, ⟨_, _, _, HT6.out, passSt_fine hf N sk2, Grew.refl _ _, Grew.refl _ _⟩, HB6.out, HKA.out⟩
end Go.Proofs.Ytpljopocnlllcaa
