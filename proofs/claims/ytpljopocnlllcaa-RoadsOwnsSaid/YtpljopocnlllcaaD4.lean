/- does: Send, Drop. -/
import Derived.Test.YtpljopocnlllcaaD3
namespace Go.Proofs.Ytpljopocnlllcaa
open Go.RowKit
attribute [local go_sem ↓] Go.wp_at_zero Go.wp_at_succ
theorem kept_b {w w1 w2 : World} {F : Nat → Prop} (h : Kept F w w1) (hb : Below w1.heap.size w1 w2) : Kept F w w2 := ⟨hb.os.trans h.1, hb.tape.trans h.2.1, hb.output.trans h.2.2.1, Nat.le_trans h.size hb.size, fun k hk hF => (hb.block k (Nat.lt_of_lt_of_le hk h.size)).trans (h.block hk hF)⟩
theorem Rd.keptB {w w' : World} {F : Nat → Prop} {A : Option Addr} {l : List UInt8} (h : Rd w A (bvals l)) (hk : Kept F w w') (hA : ∀ a, A = some a → l ≠ [] → ¬ F a.block) : Rd w' A (bvals l) := by
  by_cases h0 : l = []
  · exact .inl (by rw [h0]; rfl)
  · exact h.kept hk fun a ha => hA a ha h0
theorem grew_at {w w2 : World} {Q : Nat} {F F' : Nat → Prop} (h : Grew F F' w2) (hz : Q < w2.heap.size) (hq : w.heap.size = Q) : Grew F F' w := fun k hk => by
  rcases h k hk with h | h
  · exact .inl h
  · exact .inr (by omega)
theorem good_place {n : Nat} {d : Int} (h : ¬ badPlace n d = true) : ∃ k : Nat, d = (k : Int) ∧ k < n := by
  unfold badPlace at h
  simp at h
  exact ⟨d.toNat, by omega, by omega⟩
theorem Rep.fp_p {tw te : TypeId} {w : World} {p : Nat} {s : St} {F : Nat → Prop} (h : Rep tw te w p s F) : F p := by
  obtain ⟨cv, kv, qs, h⟩ := h
  exact h.fpp
theorem Rep.fp_sub {tw te : TypeId} {w : World} {p : Nat} {s : St} {F : Nat → Prop} (h : Rep tw te w p s F) : ∀ b, (b = p ∨ ∃ u, w.cell? ⟨p, 2, none⟩ = some u ∧ u.ownBlock = some b) → F b := fun b hb => by
  obtain ⟨cv, kv, qs, h⟩ := h
  rcases hb with rfl | ⟨u, hu, hb⟩
  · exact h.fpp
  · have h2 := h.ptr.cell 2
    rw [hu] at h2
    injection h2 with h2
    subst h2
    exact h.fpk b hb
set_option maxRecDepth 100000 in
set_option maxHeartbeats 4000000 in
theorem does_send {B : Nat} {w : World} {p q : Nat} {s : St} {F G : Nat → Prop} (d : Dd) (h : Two B w p q s s F G) (hf : s.fine) (hd : d.ok w) (hfar : ∀ a, d.sa = some a → d.sk ≠ [] → ¬ F a.block ∧ ¬ G a.block) (hfd : ∀ a, d.da = some a → d.bs ≠ [] → ¬ F a.block ∧ ¬ G a.block) (hkind : pickF d.kind 4 = 1) :
    Calls Try.prog 10 #[.pointer (some ⟨p, 0, none⟩), .pointer (some ⟨q, 0, none⟩), .agg d.cells.toArray] w (Acted B p q F G w) := by
  have HT := Lib.hid h
  obtain ⟨kind, N, to, place, sa, sk, sc, da, bs, dc, stays⟩ := d
  have HOK := Lib.hid hd
  have HFAR := Lib.hid hfar
  have HFD := Lib.hid hfd
  clear h hd hfar hfd
  rw [show (Dd.cells ⟨kind, N, to, place, sa, sk, sc, da, bs, dc, stays⟩).toArray = #[.int .i64 kind, .int .i64 N, .int .i64 to, .int .i64 place, .slice sa sk.length sc, .slice da bs.length dc, .bool stays] from rfl]
  generalize hsl : sk.length = skl at *
  generalize hbl : bs.length = bsl at *
  have HSL := Lib.hid hsl
  have HBL := Lib.hid hbl
  clear hsl hbl
  go_enter Try.func10, Try.ntmps10
  go_wp2_with fail
  rw [← HSL.out, ← HBL.out]
  have HOK1 : Hid (Dd.ok (w.alloc (.cells #[.int .i64 kind, .int .i64 N, .int .i64 to, .int .i64 place, .slice sa sk.length sc, .slice da bs.length dc, .bool stays] 32)) ⟨kind, N, to, place, sa, sk, sc, da, bs, dc, stays⟩) := HOK.out.below ((Below.refl _ _).alloc (Nat.le_refl _) _)
  refine (cut_any ⟨kind, N, to, place, sa, sk, sc, da, bs, dc, stays⟩ _ HOK1.out).mono ?_
  rintro e w2 ⟨rfl, hb2⟩
  rw [show (Dd.cut ⟨kind, N, to, place, sa, sk, sc, da, bs, dc, stays⟩).cells.toArray = #[.int .i64 kind, .int .i64 N, .int .i64 to, .int .i64 place, .slice sa (sk.take 20).length sc, .slice da (bs.take 20).length dc, .bool stays] from rfl]
  have HBX : Hid (Blk w2 w.heap.size 32 [.int .i64 kind, .int .i64 N, .int .i64 to, .int .i64 place, .slice sa sk.length sc, .slice da bs.length dc, .bool stays]) := (Blk.new w 32 _).below hb2 (by simp)
  have x0 := HBX.out.cell 0
  have x1 := HBX.out.cell 1
  have x2 := HBX.out.cell 2
  have x3 := HBX.out.cell 3
  have x4 := HBX.out.cell 4
  have x5 := HBX.out.cell 5
  have x6 := HBX.out.cell 6
  have f0 := HBX.out.frozen 0
  have f1 := HBX.out.frozen 1
  have f2 := HBX.out.frozen 2
  have f3 := HBX.out.frozen 3
  have f4 := HBX.out.frozen 4
  have f5 := HBX.out.frozen 5
  have f6 := HBX.out.frozen 6
  generalize hQ : w.heap.size = Q at *
  have HQ := Lib.hid hQ
  clear hQ
  have HSK : Hid ((sk.take 20).length ≤ 20 ∧ (bs.take 20).length ≤ 20) := ⟨by simp; omega, by simp; omega⟩
  generalize hs2 : sk.take 20 = sk2 at *
  generalize hb2' : bs.take 20 = bs2 at *
  have HS2 := Lib.hid hs2
  have HB2' := Lib.hid hb2'
  clear hs2 hb2'
  have HB2 : Hid (Below Q w w2) := by
    rw [← HQ.out]
    exact ((Below.refl _ _).alloc (Nat.le_refl _) _).trans (hb2.mono (by simp))
  have HB3 : Hid (Below Q w (((((((w2.setCell ⟨Q, 0, none⟩ (.int .i64 kind)).setCell ⟨Q, 1, none⟩ (.int .i64 N)).setCell ⟨Q, 2, none⟩ (.int .i64 to)).setCell ⟨Q, 3, none⟩ (.int .i64 place)).setCell ⟨Q, 4, none⟩ (.slice sa sk2.length sc)).setCell ⟨Q, 5, none⟩ (.slice da bs2.length dc)).setCell ⟨Q, 6, none⟩ (.bool stays))) := by
    have LB2 := HB2.out
    exact (Below.setCell (Below.setCell (Below.setCell (Below.setCell (Below.setCell (Below.setCell (Below.setCell LB2 (Nat.le_refl _) _) (Nat.le_refl _) _) (Nat.le_refl _) _) (Nat.le_refl _) _) (Nat.le_refl _) _) (Nat.le_refl _) _) (Nat.le_refl _) _)
  have HBX3 : Hid (Blk (((((((w2.setCell ⟨Q, 0, none⟩ (.int .i64 kind)).setCell ⟨Q, 1, none⟩ (.int .i64 N)).setCell ⟨Q, 2, none⟩ (.int .i64 to)).setCell ⟨Q, 3, none⟩ (.int .i64 place)).setCell ⟨Q, 4, none⟩ (.slice sa sk2.length sc)).setCell ⟨Q, 5, none⟩ (.slice da bs2.length dc)).setCell ⟨Q, 6, none⟩ (.bool stays)) Q 32 [.int .i64 kind, .int .i64 N, .int .i64 to, .int .i64 place, .slice sa sk2.length sc, .slice da bs2.length dc, .bool stays]) := (((((((HBX.out.set_ 0 _).set_ 1 _).set_ 2 _).set_ 3 _).set_ 4 _).set_ 5 _).set_ 6 _)
  have hz : Q ≤ w.heap.size := by rw [HQ.out]; exact Nat.le_refl _
  have HT3 : Hid (Two B (((((((w2.setCell ⟨Q, 0, none⟩ (.int .i64 kind)).setCell ⟨Q, 1, none⟩ (.int .i64 N)).setCell ⟨Q, 2, none⟩ (.int .i64 to)).setCell ⟨Q, 3, none⟩ (.int .i64 place)).setCell ⟨Q, 4, none⟩ (.slice sa sk2.length sc)).setCell ⟨Q, 5, none⟩ (.slice da bs2.length dc)).setCell ⟨Q, 6, none⟩ (.bool stays)) p q s s F G) := HT.out.below (below_at HB3.out HQ.out)
  have HRS3 : Hid (Rd (((((((w2.setCell ⟨Q, 0, none⟩ (.int .i64 kind)).setCell ⟨Q, 1, none⟩ (.int .i64 N)).setCell ⟨Q, 2, none⟩ (.int .i64 to)).setCell ⟨Q, 3, none⟩ (.int .i64 place)).setCell ⟨Q, 4, none⟩ (.slice sa sk2.length sc)).setCell ⟨Q, 5, none⟩ (.slice da bs2.length dc)).setCell ⟨Q, 6, none⟩ (.bool stays)) sa (ivals sk2)) := by
    have := HOK.out.cut.rs
    simp only [Dd.cut, HS2.out] at this
    exact this.below (below_at HB3.out HQ.out)
  have HRD3 : Hid (Rd (((((((w2.setCell ⟨Q, 0, none⟩ (.int .i64 kind)).setCell ⟨Q, 1, none⟩ (.int .i64 N)).setCell ⟨Q, 2, none⟩ (.int .i64 to)).setCell ⟨Q, 3, none⟩ (.int .i64 place)).setCell ⟨Q, 4, none⟩ (.slice sa sk2.length sc)).setCell ⟨Q, 5, none⟩ (.slice da bs2.length dc)).setCell ⟨Q, 6, none⟩ (.bool stays)) da (bvals bs2)) := by
    have := HOK.out.cut.rd
    simp only [Dd.cut, HB2'.out] at this
    exact this.below (below_at HB3.out HQ.out)
  have HFAR3 : Hid (∀ a, sa = some a → sk2 ≠ [] → ¬ F a.block ∧ ¬ G a.block) := fun a ha hne => HFAR.out a ha (fun e => hne (by
    have h1 := HS2.out
    rw [← h1, e]
    rfl))
  have HFD3 : Hid (∀ a, da = some a → bs2 ≠ [] → ¬ F a.block ∧ ¬ G a.block) := fun a ha hne => HFD.out a ha (fun e => hne (by
    have h1 := HB2'.out
    rw [← h1, e]
    rfl))
  have HQF : Hid (¬ F Q) := fun hF => by have := HT.out.rp.lt _ hF; have := HQ.out; omega
  have HQG : Hid (¬ G Q) := fun hG => by have := HT.out.rq.lt _ hG; have := HQ.out; omega
  have HKD : Hid (-9223372036854775808 ≤ kind ∧ kind ≤ 9223372036854775807) := ⟨HOK.out.k0, HOK.out.k1⟩
  have HBQ : Hid (B ≤ Q) := by have := HT.out.lo; have := HQ.out; unfold Hid; omega
  clear HOK HOK1 HFAR HFD hb2 HBX HB2 HS2 HB2' HSL HBL hz
  go_wp2_with fail
  generalize hW3 : (((((((w2.setCell ⟨Q, 0, none⟩ (.int .i64 kind)).setCell ⟨Q, 1, none⟩ (.int .i64 N)).setCell ⟨Q, 2, none⟩ (.int .i64 to)).setCell ⟨Q, 3, none⟩ (.int .i64 place)).setCell ⟨Q, 4, none⟩ (.slice sa sk2.length sc)).setCell ⟨Q, 5, none⟩ (.slice da bs2.length dc)).setCell ⟨Q, 6, none⟩ (.bool stays)) = W3 at *
  clear hW3 x0 x1 x2 x3 x4 x5 x6 f0 f1 f2 f3 f4 f5 f6
  have hp4 := pick_lt kind 4 (by omega)
  refine (pick_any kind 4 W3 HKD.out.1 HKD.out.2 (by omega) (by omega)).mono ?_
  rintro e w' ⟨rfl, rfl⟩
  have HTd : Hid (Two B W3.drew p q s s F G) := HT3.out.drewN 1
  have HBXd : Hid (Blk W3.drew Q 32 [.int .i64 kind, .int .i64 N, .int .i64 to, .int .i64 place, .slice sa sk2.length sc, .slice da bs2.length dc, .bool stays]) := HBX3.out.drewN 1
  have HBd : Hid (Below Q w W3.drew) := Below.drewN_ HB3.out 1
  have HRSd : Hid (Rd W3.drew sa (ivals sk2)) := HRS3.out.drew
  have HRDd : Hid (Rd W3.drew da (bvals bs2)) := HRD3.out.drew
  have HZ : Hid (Q < W3.drew.heap.size) := HBXd.out.lt
  have y1 := HBX3.out.cell 1
  have y2 := HBX3.out.cell 2
  have y3 := HBX3.out.cell 3
  have y4 := HBX3.out.cell 4
  have y5 := HBX3.out.cell 5
  have y6 := HBX3.out.cell 6
  rw [show pickF kind 4 = 1 from hkind]
  clear hkind
  by_cases hto : isB s.clocks.length to = true
  · go_wp2_with fail
    go_region_held3 (fun w' => w'.cell? ⟨Q, 2, none⟩ = some (.int .i64 to) ∧ w'.cell? ⟨Q, 5, none⟩ = some (.slice da bs2.length dc)) (go_keep) ((first
      | (go_at_call 17; refine (send_any to da dc bs2 HTd.out.rp hf.good HRDd.out (by have := HSK.out.2; omega) hto).mono ?_; rintro e w4 ⟨rfl, F4, hr4, hk4, hg4⟩; have HT4 : Hid (Two B w4 p q (sendSt s to bs2) s F4 G) := HTd.out.left hr4 hk4 hg4; have HG4 : Hid (Grew F F4 W3.drew) := hg4; have HBX4 : Hid (Blk w4 Q 32 [.int .i64 kind, .int .i64 N, .int .i64 to, .int .i64 place, .slice sa sk2.length sc, .slice da bs2.length dc, .bool stays]) := (hk4.block HZ.out HQF.out).trans HBXd.out; have HRD4 : Hid (Rd w4 da (bvals bs2)) := Rd.keptB HRDd.out hk4 (fun a ha hne => (HFD3.out a ha hne).1); have HB4 : Hid (Below B w w4) := (HBd.out.mono HBQ.out).trans (hk4.below HTd.out.loF HTd.out.lo); have HK4 : Hid (W3.drew.heap.size ≤ w4.heap.size) := hk4.size; have HKF4 := Lib.hid hk4; have y14 := HBX4.out.cell 2; have y44 := HBX4.out.cell 5; clear hr4 hk4 hg4)
      | (go_at_call 24; refine (rsend_any to da dc bs2 HT4.out.rq hf.good HRD4.out (by have := HSK.out.2; omega) hto).mono ?_; rintro e w5 ⟨rfl, G5, hr5, hk5, hg5⟩; have HT5 : Hid (Two B w5 p q (sendSt s to bs2) (sendSt s to bs2) F4 G5) := HT4.out.right hr5 hk5 hg5; have HG5 : Hid (Grew G G5 w4) := hg5; have HBX5 : Hid (Blk w5 Q 32 [.int .i64 kind, .int .i64 N, .int .i64 to, .int .i64 place, .slice sa sk2.length sc, .slice da bs2.length dc, .bool stays]) := (hk5.block (Nat.lt_of_lt_of_le HZ.out HK4.out) HQG.out).trans HBX4.out; have HB5 : Hid (Below B w w5) := HB4.out.trans (hk5.below HT4.out.loG HT4.out.lo); have HKG5 := Lib.hid hk5; have y15 := HBX5.out.cell 2; have y45 := HBX5.out.cell 5; clear hr5 hk5 hg5)))
    go_wp2_with fail
    go_ret
    exact ⟨rfl, ⟨_, _, _, HT5.out, sendSt_fine hf to bs2 (by have := HSK.out.2; omega), grew_at HG4.out HZ.out HQ.out, grew_at HG5.out (Nat.lt_of_lt_of_le HZ.out HK4.out) HQ.out⟩, HB5.out, kept_fg HBd.out HQ.out HKF4.out HKG5.out⟩
  · have hto' : isB s.clocks.length to = false := by simpa using hto
    go_wp2_with fail
    go_region_held3 (fun w' => w'.cell? ⟨Q, 2, none⟩ = some (.int .i64 to) ∧ w'.cell? ⟨Q, 5, none⟩ = some (.slice da bs2.length dc)) (go_keep) ((first
      | (go_at_call 17; refine (send_bad to _ HTd.out.rp hto').mono ?_; rintro e w4 ⟨rfl, rfl⟩)
      | (go_at_call 24; refine (rsend_bad to _ HTd.out.rq hto').mono ?_; rintro e w5 ⟨rfl, rfl⟩)))
    go_wp2_with fail
    go_ret
    exact ⟨rfl, ⟨_, _, _, HTd.out, hf, Grew.refl _ _, Grew.refl _ _⟩, HBd.out.mono HBQ.out, kept_fg HBd.out HQ.out (Kept.refl _ _) (Kept.refl _ _)⟩
set_option maxRecDepth 100000 in
set_option maxHeartbeats 4000000 in
theorem does_drop {B : Nat} {w : World} {p q : Nat} {s : St} {F G : Nat → Prop} (d : Dd) (h : Two B w p q s s F G) (hf : s.fine) (hd : d.ok w) (hfar : ∀ a, d.sa = some a → d.sk ≠ [] → ¬ F a.block ∧ ¬ G a.block) (hfd : ∀ a, d.da = some a → d.bs ≠ [] → ¬ F a.block ∧ ¬ G a.block) (hkind : pickF d.kind 4 = 3) :
    Calls Try.prog 10 #[.pointer (some ⟨p, 0, none⟩), .pointer (some ⟨q, 0, none⟩), .agg d.cells.toArray] w (Acted B p q F G w) := by
  have HT := Lib.hid h
  obtain ⟨kind, N, to, place, sa, sk, sc, da, bs, dc, stays⟩ := d
  have HOK := Lib.hid hd
  have HFAR := Lib.hid hfar
  have HFD := Lib.hid hfd
  clear h hd hfar hfd
  rw [show (Dd.cells ⟨kind, N, to, place, sa, sk, sc, da, bs, dc, stays⟩).toArray = #[.int .i64 kind, .int .i64 N, .int .i64 to, .int .i64 place, .slice sa sk.length sc, .slice da bs.length dc, .bool stays] from rfl]
  generalize hsl : sk.length = skl at *
  generalize hbl : bs.length = bsl at *
  have HSL := Lib.hid hsl
  have HBL := Lib.hid hbl
  clear hsl hbl
  go_enter Try.func10, Try.ntmps10
  go_wp2_with fail
  rw [← HSL.out, ← HBL.out]
  have HOK1 : Hid (Dd.ok (w.alloc (.cells #[.int .i64 kind, .int .i64 N, .int .i64 to, .int .i64 place, .slice sa sk.length sc, .slice da bs.length dc, .bool stays] 32)) ⟨kind, N, to, place, sa, sk, sc, da, bs, dc, stays⟩) := HOK.out.below ((Below.refl _ _).alloc (Nat.le_refl _) _)
  refine (cut_any ⟨kind, N, to, place, sa, sk, sc, da, bs, dc, stays⟩ _ HOK1.out).mono ?_
  rintro e w2 ⟨rfl, hb2⟩
  rw [show (Dd.cut ⟨kind, N, to, place, sa, sk, sc, da, bs, dc, stays⟩).cells.toArray = #[.int .i64 kind, .int .i64 N, .int .i64 to, .int .i64 place, .slice sa (sk.take 20).length sc, .slice da (bs.take 20).length dc, .bool stays] from rfl]
  have HBX : Hid (Blk w2 w.heap.size 32 [.int .i64 kind, .int .i64 N, .int .i64 to, .int .i64 place, .slice sa sk.length sc, .slice da bs.length dc, .bool stays]) := (Blk.new w 32 _).below hb2 (by simp)
  have x0 := HBX.out.cell 0
  have x1 := HBX.out.cell 1
  have x2 := HBX.out.cell 2
  have x3 := HBX.out.cell 3
  have x4 := HBX.out.cell 4
  have x5 := HBX.out.cell 5
  have x6 := HBX.out.cell 6
  have f0 := HBX.out.frozen 0
  have f1 := HBX.out.frozen 1
  have f2 := HBX.out.frozen 2
  have f3 := HBX.out.frozen 3
  have f4 := HBX.out.frozen 4
  have f5 := HBX.out.frozen 5
  have f6 := HBX.out.frozen 6
  generalize hQ : w.heap.size = Q at *
  have HQ := Lib.hid hQ
  clear hQ
  have HSK : Hid ((sk.take 20).length ≤ 20 ∧ (bs.take 20).length ≤ 20) := ⟨by simp; omega, by simp; omega⟩
  generalize hs2 : sk.take 20 = sk2 at *
  generalize hb2' : bs.take 20 = bs2 at *
  have HS2 := Lib.hid hs2
  have HB2' := Lib.hid hb2'
  clear hs2 hb2'
  have HB2 : Hid (Below Q w w2) := by
    rw [← HQ.out]
    exact ((Below.refl _ _).alloc (Nat.le_refl _) _).trans (hb2.mono (by simp))
  have HB3 : Hid (Below Q w (((((((w2.setCell ⟨Q, 0, none⟩ (.int .i64 kind)).setCell ⟨Q, 1, none⟩ (.int .i64 N)).setCell ⟨Q, 2, none⟩ (.int .i64 to)).setCell ⟨Q, 3, none⟩ (.int .i64 place)).setCell ⟨Q, 4, none⟩ (.slice sa sk2.length sc)).setCell ⟨Q, 5, none⟩ (.slice da bs2.length dc)).setCell ⟨Q, 6, none⟩ (.bool stays))) := by
    have LB2 := HB2.out
    exact (Below.setCell (Below.setCell (Below.setCell (Below.setCell (Below.setCell (Below.setCell (Below.setCell LB2 (Nat.le_refl _) _) (Nat.le_refl _) _) (Nat.le_refl _) _) (Nat.le_refl _) _) (Nat.le_refl _) _) (Nat.le_refl _) _) (Nat.le_refl _) _)
  have HBX3 : Hid (Blk (((((((w2.setCell ⟨Q, 0, none⟩ (.int .i64 kind)).setCell ⟨Q, 1, none⟩ (.int .i64 N)).setCell ⟨Q, 2, none⟩ (.int .i64 to)).setCell ⟨Q, 3, none⟩ (.int .i64 place)).setCell ⟨Q, 4, none⟩ (.slice sa sk2.length sc)).setCell ⟨Q, 5, none⟩ (.slice da bs2.length dc)).setCell ⟨Q, 6, none⟩ (.bool stays)) Q 32 [.int .i64 kind, .int .i64 N, .int .i64 to, .int .i64 place, .slice sa sk2.length sc, .slice da bs2.length dc, .bool stays]) := (((((((HBX.out.set_ 0 _).set_ 1 _).set_ 2 _).set_ 3 _).set_ 4 _).set_ 5 _).set_ 6 _)
  have hz : Q ≤ w.heap.size := by rw [HQ.out]; exact Nat.le_refl _
  have HT3 : Hid (Two B (((((((w2.setCell ⟨Q, 0, none⟩ (.int .i64 kind)).setCell ⟨Q, 1, none⟩ (.int .i64 N)).setCell ⟨Q, 2, none⟩ (.int .i64 to)).setCell ⟨Q, 3, none⟩ (.int .i64 place)).setCell ⟨Q, 4, none⟩ (.slice sa sk2.length sc)).setCell ⟨Q, 5, none⟩ (.slice da bs2.length dc)).setCell ⟨Q, 6, none⟩ (.bool stays)) p q s s F G) := HT.out.below (below_at HB3.out HQ.out)
  have HRS3 : Hid (Rd (((((((w2.setCell ⟨Q, 0, none⟩ (.int .i64 kind)).setCell ⟨Q, 1, none⟩ (.int .i64 N)).setCell ⟨Q, 2, none⟩ (.int .i64 to)).setCell ⟨Q, 3, none⟩ (.int .i64 place)).setCell ⟨Q, 4, none⟩ (.slice sa sk2.length sc)).setCell ⟨Q, 5, none⟩ (.slice da bs2.length dc)).setCell ⟨Q, 6, none⟩ (.bool stays)) sa (ivals sk2)) := by
    have := HOK.out.cut.rs
    simp only [Dd.cut, HS2.out] at this
    exact this.below (below_at HB3.out HQ.out)
  have HRD3 : Hid (Rd (((((((w2.setCell ⟨Q, 0, none⟩ (.int .i64 kind)).setCell ⟨Q, 1, none⟩ (.int .i64 N)).setCell ⟨Q, 2, none⟩ (.int .i64 to)).setCell ⟨Q, 3, none⟩ (.int .i64 place)).setCell ⟨Q, 4, none⟩ (.slice sa sk2.length sc)).setCell ⟨Q, 5, none⟩ (.slice da bs2.length dc)).setCell ⟨Q, 6, none⟩ (.bool stays)) da (bvals bs2)) := by
    have := HOK.out.cut.rd
    simp only [Dd.cut, HB2'.out] at this
    exact this.below (below_at HB3.out HQ.out)
  have HFAR3 : Hid (∀ a, sa = some a → sk2 ≠ [] → ¬ F a.block ∧ ¬ G a.block) := fun a ha hne => HFAR.out a ha (fun e => hne (by
    have h1 := HS2.out
    rw [← h1, e]
    rfl))
  have HFD3 : Hid (∀ a, da = some a → bs2 ≠ [] → ¬ F a.block ∧ ¬ G a.block) := fun a ha hne => HFD.out a ha (fun e => hne (by
    have h1 := HB2'.out
    rw [← h1, e]
    rfl))
  have HQF : Hid (¬ F Q) := fun hF => by have := HT.out.rp.lt _ hF; have := HQ.out; omega
  have HQG : Hid (¬ G Q) := fun hG => by have := HT.out.rq.lt _ hG; have := HQ.out; omega
  have HKD : Hid (-9223372036854775808 ≤ kind ∧ kind ≤ 9223372036854775807) := ⟨HOK.out.k0, HOK.out.k1⟩
  have HBQ : Hid (B ≤ Q) := by have := HT.out.lo; have := HQ.out; unfold Hid; omega
  clear HOK HOK1 HFAR HFD hb2 HBX HB2 HS2 HB2' HSL HBL hz
  go_wp2_with fail
  generalize hW3 : (((((((w2.setCell ⟨Q, 0, none⟩ (.int .i64 kind)).setCell ⟨Q, 1, none⟩ (.int .i64 N)).setCell ⟨Q, 2, none⟩ (.int .i64 to)).setCell ⟨Q, 3, none⟩ (.int .i64 place)).setCell ⟨Q, 4, none⟩ (.slice sa sk2.length sc)).setCell ⟨Q, 5, none⟩ (.slice da bs2.length dc)).setCell ⟨Q, 6, none⟩ (.bool stays)) = W3 at *
  clear hW3 x0 x1 x2 x3 x4 x5 x6 f0 f1 f2 f3 f4 f5 f6
  have hp4 := pick_lt kind 4 (by omega)
  refine (pick_any kind 4 W3 HKD.out.1 HKD.out.2 (by omega) (by omega)).mono ?_
  rintro e w' ⟨rfl, rfl⟩
  have HTd : Hid (Two B W3.drew p q s s F G) := HT3.out.drewN 1
  have HBXd : Hid (Blk W3.drew Q 32 [.int .i64 kind, .int .i64 N, .int .i64 to, .int .i64 place, .slice sa sk2.length sc, .slice da bs2.length dc, .bool stays]) := HBX3.out.drewN 1
  have HBd : Hid (Below Q w W3.drew) := Below.drewN_ HB3.out 1
  have HRSd : Hid (Rd W3.drew sa (ivals sk2)) := HRS3.out.drew
  have HRDd : Hid (Rd W3.drew da (bvals bs2)) := HRD3.out.drew
  have HZ : Hid (Q < W3.drew.heap.size) := HBXd.out.lt
  have y1 := HBX3.out.cell 1
  have y2 := HBX3.out.cell 2
  have y3 := HBX3.out.cell 3
  have y4 := HBX3.out.cell 4
  have y5 := HBX3.out.cell 5
  have y6 := HBX3.out.cell 6
  rw [show pickF kind 4 = 3 from hkind]
  clear hkind
  by_cases hbad : badPlace s.ps.length place = true
  · go_wp2_with fail
    go_region_held3 (fun w' => w'.cell? ⟨Q, 3, none⟩ = some (.int .i64 place)) (go_keep) ((first
      | (go_at_call 19; refine (drop_bad place HTd.out.rp hbad).mono ?_; rintro e w4 ⟨rfl, rfl⟩)
      | (go_at_call 26; refine (rdrop_bad place HTd.out.rq hbad).mono ?_; rintro e w5 ⟨rfl, rfl⟩)))
    go_wp2_with fail
    go_ret
    exact ⟨rfl, ⟨_, _, _, HTd.out, hf, Grew.refl _ _, Grew.refl _ _⟩, HBd.out.mono HBQ.out, kept_fg HBd.out HQ.out (Kept.refl _ _) (Kept.refl _ _)⟩
  · obtain ⟨k, rfl, hk⟩ := good_place hbad
    obtain ⟨⟨to2, bs3⟩, hx⟩ : ∃ y, s.ps[k] = y := ⟨_, rfl⟩
    have HPK : Hid (s.ps[k]? = some (to2, bs3)) := by unfold Hid; rw [List.getElem?_eq_getElem hk, hx]
    have hbs : bs3.length ≤ 1000 := hf.small (to2, bs3) (List.mem_of_getElem? HPK.out)
    have hp1 := hf.good.p1
    clear hx hbad
    go_wp2_with fail
    go_region_held3 (fun w' => w'.cell? ⟨Q, 3, none⟩ = some (.int .i64 (k : Int))) (go_keep) ((first
      | (go_at_call 19; refine (drop_any k to2 bs3 HTd.out.rp hf.good HPK.out hbs).mono ?_; rintro e w4 ⟨rfl, F4, hr4, hk4, hg4⟩; have HT4 : Hid (Two B w4 p q ⟨s.time, s.clocks, s.ps.eraseIdx k⟩ s F4 G) := HTd.out.left hr4 hk4 hg4; have HG4 : Hid (Grew F F4 W3.drew) := hg4; have HBX4 : Hid (Blk w4 Q 32 [.int .i64 kind, .int .i64 N, .int .i64 to, .int .i64 (k : Int), .slice sa sk2.length sc, .slice da bs2.length dc, .bool stays]) := (hk4.block HZ.out HQF.out).trans HBXd.out; have HB4 : Hid (Below B w w4) := (HBd.out.mono HBQ.out).trans (hk4.below HTd.out.loF HTd.out.lo); have HK4 : Hid (W3.drew.heap.size ≤ w4.heap.size) := hk4.size; have HKF4 := Lib.hid hk4; have y14 := HBX4.out.cell 3; clear hr4 hk4 hg4)
      | (go_at_call 26; refine (rdrop_any k HT4.out.rq hk hp1).mono ?_; rintro e w5 ⟨rfl, G5, hr5, hk5', hg5⟩; have hk5 := hk5'.mono HT4.out.rq.fp_sub; have HT5 : Hid (Two B w5 p q ⟨s.time, s.clocks, s.ps.eraseIdx k⟩ ⟨s.time, s.clocks, s.ps.eraseIdx k⟩ F4 G5) := HT4.out.right hr5 hk5 hg5; have HG5 : Hid (Grew G G5 w4) := hg5; have HBX5 : Hid (Blk w5 Q 32 [.int .i64 kind, .int .i64 N, .int .i64 to, .int .i64 (k : Int), .slice sa sk2.length sc, .slice da bs2.length dc, .bool stays]) := (hk5.block (Nat.lt_of_lt_of_le HZ.out HK4.out) HQG.out).trans HBX4.out; have HB5 : Hid (Below B w w5) := HB4.out.trans (hk5.below HT4.out.loG HT4.out.lo); have HKG5 := Lib.hid hk5; have y15 := HBX5.out.cell 3; clear hr5 hk5 hk5' hg5)))
    go_wp2_with fail
    go_ret
    exact ⟨rfl, ⟨_, _, _, HT5.out, erase_fine hf k, grew_at HG4.out HZ.out HQ.out, grew_at HG5.out (Nat.lt_of_lt_of_le HZ.out HK4.out) HQ.out⟩, HB5.out, kept_fg HBd.out HQ.out HKF4.out HKG5.out⟩
end Go.Proofs.Ytpljopocnlllcaa
