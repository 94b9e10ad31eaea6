/- does: a deed, of both tapes. -/
import Derived.Test.YtpcmfbdlfjlobaaV1
namespace Go.Proofs.Ytpcmfbdlfjlobaa
open Go.RowKit
set_option linter.unusedVariables false
attribute [local go_sem ↓] Go.wp_at_zero Go.wp_at_succ
/-- A deed as it lies. -/
structure Dd where
  kind : Int
  side : Int
  n : Int
  da : Option Addr
  bs : List UInt8
  dc : Nat
def Dd.cells (d : Dd) : List Value := [.int .i64 d.kind, .int .i64 d.side, .int .i64 d.n, .slice d.da d.bs.length d.dc]
structure Dd.ok (w : World) (d : Dd) : Prop where
  rd : Rd w d.da (bvals d.bs)
  ld : d.bs.length ≤ d.dc
  md : d.dc ≤ maxLen
  k0 : -9223372036854775808 ≤ d.kind ∧ d.kind ≤ 9223372036854775807
  n0 : -9223372036854775808 ≤ d.n ∧ d.n ≤ 9223372036854775807
  s0 : -9223372036854775808 ≤ d.side ∧ d.side ≤ 9223372036854775807
theorem Dd.ok.below {w w' : World} {d : Dd} (h : d.ok w) (hb : Below w.heap.size w w') : d.ok w' := ⟨h.rd.below hb, h.ld, h.md, h.k0, h.n0, h.s0⟩
def Acted (B : Nat) (p q : Nat) (s : TSt) (F G : Nat → Prop) (w : World) (e : Ending) (w' : World) : Prop := e = .returned (.bool true) ∧ (∃ s' F' G', Two B w' p q s' s' F' G' ∧ s'.good ∧ s'.us.length ≤ s.us.length + 60 ∧ Grew F F' w ∧ Grew G G' w) ∧ Below B w w' ∧ Kept (fun k => F k ∨ G k) w w'
theorem kept_fg {w w1 w2 w3 : World} {Q : Nat} {F G : Nat → Prop} (h0 : Below Q w w1) (hq : w.heap.size = Q) (h1 : Kept F w1 w2) (h2 : Kept G w2 w3) : Kept (fun k => F k ∨ G k) w w3 := by
  subst hq
  refine ⟨h2.1.trans (h1.1.trans h0.os), h2.2.1.trans (h1.2.1.trans h0.tape), h2.2.2.1.trans (h1.2.2.1.trans h0.output), Nat.le_trans h0.size (Nat.le_trans h1.size h2.size), fun k hk hF => ?_⟩
  have hk1 := Nat.lt_of_lt_of_le hk h0.size
  exact (h2.block (Nat.lt_of_lt_of_le hk1 h1.size) (fun h => hF (.inr h))).trans ((h1.block hk1 (fun h => hF (.inl h))).trans (h0.block k hk))
theorem Rd.keptB {w w' : World} {F : Nat → Prop} {A : Option Addr} {l : List UInt8} (h : Rd w A (bvals l)) (hk : Kept F w w') (hA : ∀ a, A = some a → l ≠ [] → ¬ F a.block) : Rd w' A (bvals l) := by
  by_cases h0 : l = []
  · exact .inl (by rw [h0]; rfl)
  · exact h.kept hk fun a ha => hA a ha h0
theorem grew_at {w w2 : World} {Q : Nat} {F F' : Nat → Prop} (h : Grew F F' w2) (hz : Q < w2.heap.size) (hq : w.heap.size = Q) : Grew F F' w := fun k hk => by
  rcases h k hk with h | h
  · exact .inl h
  · exact .inr (by omega)
set_option maxRecDepth 100000 in
set_option maxHeartbeats 4000000 in
theorem does_write {B : Nat} {w : World} {p q : Nat} {s : TSt} {F G : Nat → Prop} (d : Dd) (h : Two B w p q s s F G) (hg : s.good) (hl : s.us.length ≤ 900000) (hd : d.ok w) (hfd : ∀ a, d.da = some a → d.bs ≠ [] → ¬ F a.block ∧ ¬ G a.block) (hkind : pickF d.kind 6 = 0) :
    Calls Try.prog 11 #[.pointer (some ⟨p, 0, none⟩), .pointer (some ⟨q, 0, none⟩), .agg d.cells.toArray] w (Acted B p q s F G w) := by
  have HT := Lib.hid h
  have HG := Lib.hid hg
  have HUL : Hid (s.us.length ≤ 1000000) := by unfold Hid; omega
  have HUL9 : Hid (s.us.length ≤ 900000) := hl
  obtain ⟨kind, side, n, da, bs, dc⟩ := d
  have HOK := Lib.hid hd
  have HFD := Lib.hid hfd
  clear h hd hfd hg hl
  rw [show (Dd.cells ⟨kind, side, n, da, bs, dc⟩).toArray = #[.int .i64 kind, .int .i64 side, .int .i64 n, .slice da bs.length dc] from rfl]
  have HFW := Lib.hid (few_any da dc bs (w.alloc (.cells #[.int .i64 kind, .int .i64 side, .int .i64 n, .slice da bs.length dc] 30)) (HOK.out.rd.alloc _) HOK.out.ld HOK.out.md)
  have HS2 : Hid ((bs.take 60).length ≤ 60) := by unfold Hid; simp; omega
  have HRD : Hid (Rd w da (bvals (bs.take 60))) := by
    have := HOK.out.rd.take 60
    rw [← bvals_take] at this
    exact this
  have HFD3 : Hid (∀ a, da = some a → bs.take 60 ≠ [] → ¬ F a.block ∧ ¬ G a.block) := fun a ha hne => HFD.out a ha (fun e => hne (by simp only at e; rw [e]; rfl))
  have HKD := Lib.hid (HOK.out.k0)
  have HND := Lib.hid (HOK.out.n0)
  clear HOK HFD
  generalize hb2 : bs.take 60 = bs2 at *
  clear hb2
  generalize hbl : bs.length = bsl at *
  clear hbl
  go_enter Try.func11, Try.ntmps11
  go_wp2_with fail
  refine HFW.out.mono ?_
  rintro e w' ⟨rfl, rfl⟩
  clear HFW
  go_wp2_with fail
  generalize hQ : w.heap.size = Q at *
  have HQ := Lib.hid hQ
  have HBX3 : Hid (Blk (w.alloc (.cells #[.int .i64 kind, .int .i64 side, .int .i64 n, .slice da bs2.length dc] 30)) Q 30 [.int .i64 kind, .int .i64 side, .int .i64 n, .slice da bs2.length dc]) := by
    rw [← HQ.out]
    exact Blk.new w 30 _
  have HB3 : Hid (Below Q w (w.alloc (.cells #[.int .i64 kind, .int .i64 side, .int .i64 n, .slice da bs2.length dc] 30))) := by
    rw [← HQ.out]
    exact (Below.refl _ _).alloc (Nat.le_refl _) _
  have HT3 : Hid (Two B (w.alloc (.cells #[.int .i64 kind, .int .i64 side, .int .i64 n, .slice da bs2.length dc] 30)) p q s s F G) := HT.out.below ((Below.refl _ _).alloc (Nat.le_refl _) _)
  have HRD3 : Hid (Rd (w.alloc (.cells #[.int .i64 kind, .int .i64 side, .int .i64 n, .slice da bs2.length dc] 30)) da (bvals bs2)) := HRD.out.alloc _
  have HQF : Hid (¬ F Q) := fun hF => by have := HT.out.rp.lt _ hF; have := HQ.out; omega
  have HQG : Hid (¬ G Q) := fun hG => by have := HT.out.rq.lt _ hG; have := HQ.out; omega
  have HBQ : Hid (B ≤ Q) := by have := HT.out.lo; have := HQ.out; unfold Hid; omega
  clear hQ HRD HT
  generalize hW3 : w.alloc (.cells #[.int .i64 kind, .int .i64 side, .int .i64 n, .slice da bs2.length dc] 30) = W3 at *
  clear hW3
  refine (pick_any kind 6 W3 HKD.out.1 HKD.out.2 (by omega) (by omega)).mono ?_
  rintro e w' ⟨rfl, rfl⟩
  rw [show pickF kind 6 = 0 from hkind]
  clear hkind
  have HTd : Hid (Two B W3.drew p q s s F G) := HT3.out.drewN 1
  have HBXd : Hid (Blk W3.drew Q 30 [.int .i64 kind, .int .i64 side, .int .i64 n, .slice da bs2.length dc]) := HBX3.out.drewN 1
  have HBd : Hid (Below Q w W3.drew) := Below.drewN_ HB3.out 1
  have HRDd : Hid (Rd W3.drew da (bvals bs2)) := HRD3.out.drew
  have HZ : Hid (Q < W3.drew.heap.size) := HBXd.out.lt
  have y1 := HBX3.out.cell 1
  have y2 := HBX3.out.cell 2
  have y3 := HBX3.out.cell 3
  have hee : (((opW s side bs2).1) == ((opW s side bs2).1)) = true := by simp
  have HGD := Lib.hid (opW_good HG.out side bs2)
  obtain ⟨r, hr0⟩ : ∃ r, (opW s side bs2).1 = r := ⟨_, rfl⟩
  rw [hr0] at hee
  have hr := hr0
  clear hr0
  go_wp2_with fail
  go_region_held3 (fun w' => w'.cell? ⟨Q, 1, none⟩ = some (.int .i64 side) ∧ w'.cell? ⟨Q, 3, none⟩ = some (.slice da bs2.length dc)) (go_keep) ((first
    | (go_at_call 15; refine (write_all side da dc bs2 HTd.out.rp HG.out HRDd.out (by have := HS2.out; omega) HUL.out).mono ?_; rintro e w4 ⟨he4, F4, hr4, hk4, hg4⟩; rw [hr] at he4; subst he4; have HT4 : Hid (Two B w4 p q ((opW s side bs2).2) s F4 G) := HTd.out.left hr4 hk4 hg4; have HG4 : Hid (Grew F F4 W3.drew) := hg4; have HBX4 : Hid (Blk w4 Q 30 [.int .i64 kind, .int .i64 side, .int .i64 n, .slice da bs2.length dc]) := (hk4.block HZ.out HQF.out).trans HBXd.out; have HRD4 : Hid (Rd w4 da (bvals bs2)) := Rd.keptB HRDd.out hk4 (fun a ha hne => (HFD3.out a ha hne).1); have HB4 : Hid (Below B w w4) := (HBd.out.mono HBQ.out).trans (hk4.below HTd.out.loF HTd.out.lo); have HK4 : Hid (W3.drew.heap.size ≤ w4.heap.size) := hk4.size; have HKF4 := Lib.hid hk4; have y14 := HBX4.out.cell 1; have y34 := HBX4.out.cell 3; clear hr4 hk4 hg4)
    | (go_at_call 26; refine (rwrite_all side da dc bs2 HT4.out.rq HG.out HRD4.out (fun a ha hne => (HFD3.out a ha hne).2) (by have := HS2.out; omega) HUL.out).mono ?_; rintro e w5 ⟨he5, G5, hr5, hk5, hg5⟩; rw [hr] at he5; subst he5; have HT5 : Hid (Two B w5 p q ((opW s side bs2).2) ((opW s side bs2).2) F4 G5) := HT4.out.right hr5 hk5 hg5; have HG5 : Hid (Grew G G5 w4) := hg5; have HBX5 : Hid (Blk w5 Q 30 [.int .i64 kind, .int .i64 side, .int .i64 n, .slice da bs2.length dc]) := (hk5.block (Nat.lt_of_lt_of_le HZ.out HK4.out) HQG.out).trans HBX4.out; have HB5 : Hid (Below B w w5) := HB4.out.trans (hk5.below HT4.out.loG HT4.out.lo); have HKG5 := Lib.hid hk5; have y15 := HBX5.out.cell 1; have y35 := HBX5.out.cell 3; clear hr5 hk5 hg5)))
  go_wp2_with fail
  go_ret
  exact ⟨rfl, ⟨_, _, _, HT5.out, HGD.out.1, by have := HGD.out.2; have := HS2.out; omega, grew_at HG4.out HZ.out HQ.out, grew_at HG5.out (Nat.lt_of_lt_of_le HZ.out HK4.out) HQ.out⟩, HB5.out, kept_fg HBd.out HQ.out HKF4.out HKG5.out⟩
set_option maxRecDepth 100000 in
set_option maxHeartbeats 4000000 in
theorem does_clear {B : Nat} {w : World} {p q : Nat} {s : TSt} {F G : Nat → Prop} (d : Dd) (h : Two B w p q s s F G) (hg : s.good) (hl : s.us.length ≤ 900000) (hd : d.ok w) (hfd : ∀ a, d.da = some a → d.bs ≠ [] → ¬ F a.block ∧ ¬ G a.block) (hkind : pickF d.kind 6 = 1) :
    Calls Try.prog 11 #[.pointer (some ⟨p, 0, none⟩), .pointer (some ⟨q, 0, none⟩), .agg d.cells.toArray] w (Acted B p q s F G w) := by
  have HT := Lib.hid h
  have HG := Lib.hid hg
  have HUL : Hid (s.us.length ≤ 1000000) := by unfold Hid; omega
  have HUL9 : Hid (s.us.length ≤ 900000) := hl
  obtain ⟨kind, side, n, da, bs, dc⟩ := d
  have HOK := Lib.hid hd
  have HFD := Lib.hid hfd
  clear h hd hfd hg hl
  rw [show (Dd.cells ⟨kind, side, n, da, bs, dc⟩).toArray = #[.int .i64 kind, .int .i64 side, .int .i64 n, .slice da bs.length dc] from rfl]
  have HFW := Lib.hid (few_any da dc bs (w.alloc (.cells #[.int .i64 kind, .int .i64 side, .int .i64 n, .slice da bs.length dc] 30)) (HOK.out.rd.alloc _) HOK.out.ld HOK.out.md)
  have HS2 : Hid ((bs.take 60).length ≤ 60) := by unfold Hid; simp; omega
  have HRD : Hid (Rd w da (bvals (bs.take 60))) := by
    have := HOK.out.rd.take 60
    rw [← bvals_take] at this
    exact this
  have HFD3 : Hid (∀ a, da = some a → bs.take 60 ≠ [] → ¬ F a.block ∧ ¬ G a.block) := fun a ha hne => HFD.out a ha (fun e => hne (by simp only at e; rw [e]; rfl))
  have HKD := Lib.hid (HOK.out.k0)
  have HND := Lib.hid (HOK.out.n0)
  clear HOK HFD
  generalize hb2 : bs.take 60 = bs2 at *
  clear hb2
  generalize hbl : bs.length = bsl at *
  clear hbl
  go_enter Try.func11, Try.ntmps11
  go_wp2_with fail
  refine HFW.out.mono ?_
  rintro e w' ⟨rfl, rfl⟩
  clear HFW
  go_wp2_with fail
  generalize hQ : w.heap.size = Q at *
  have HQ := Lib.hid hQ
  have HBX3 : Hid (Blk (w.alloc (.cells #[.int .i64 kind, .int .i64 side, .int .i64 n, .slice da bs2.length dc] 30)) Q 30 [.int .i64 kind, .int .i64 side, .int .i64 n, .slice da bs2.length dc]) := by
    rw [← HQ.out]
    exact Blk.new w 30 _
  have HB3 : Hid (Below Q w (w.alloc (.cells #[.int .i64 kind, .int .i64 side, .int .i64 n, .slice da bs2.length dc] 30))) := by
    rw [← HQ.out]
    exact (Below.refl _ _).alloc (Nat.le_refl _) _
  have HT3 : Hid (Two B (w.alloc (.cells #[.int .i64 kind, .int .i64 side, .int .i64 n, .slice da bs2.length dc] 30)) p q s s F G) := HT.out.below ((Below.refl _ _).alloc (Nat.le_refl _) _)
  have HRD3 : Hid (Rd (w.alloc (.cells #[.int .i64 kind, .int .i64 side, .int .i64 n, .slice da bs2.length dc] 30)) da (bvals bs2)) := HRD.out.alloc _
  have HQF : Hid (¬ F Q) := fun hF => by have := HT.out.rp.lt _ hF; have := HQ.out; omega
  have HQG : Hid (¬ G Q) := fun hG => by have := HT.out.rq.lt _ hG; have := HQ.out; omega
  have HBQ : Hid (B ≤ Q) := by have := HT.out.lo; have := HQ.out; unfold Hid; omega
  clear hQ HRD HT
  generalize hW3 : w.alloc (.cells #[.int .i64 kind, .int .i64 side, .int .i64 n, .slice da bs2.length dc] 30) = W3 at *
  clear hW3
  refine (pick_any kind 6 W3 HKD.out.1 HKD.out.2 (by omega) (by omega)).mono ?_
  rintro e w' ⟨rfl, rfl⟩
  rw [show pickF kind 6 = 1 from hkind]
  clear hkind
  have HTd : Hid (Two B W3.drew p q s s F G) := HT3.out.drewN 1
  have HBXd : Hid (Blk W3.drew Q 30 [.int .i64 kind, .int .i64 side, .int .i64 n, .slice da bs2.length dc]) := HBX3.out.drewN 1
  have HBd : Hid (Below Q w W3.drew) := Below.drewN_ HB3.out 1
  have HRDd : Hid (Rd W3.drew da (bvals bs2)) := HRD3.out.drew
  have HZ : Hid (Q < W3.drew.heap.size) := HBXd.out.lt
  have y1 := HBX3.out.cell 1
  have y2 := HBX3.out.cell 2
  have y3 := HBX3.out.cell 3
  have hee : (((opT s side 0).1) == ((opT s side 0).1)) = true := by simp
  have HGD := Lib.hid (opT_good HG.out side 0)
  obtain ⟨r, hr0⟩ : ∃ r, (opT s side 0).1 = r := ⟨_, rfl⟩
  rw [hr0] at hee
  have hr := hr0
  clear hr0
  go_wp2_with fail
  go_region_held3 (fun w' => w'.cell? ⟨Q, 1, none⟩ = some (.int .i64 side)) (go_keep) ((first
    | (go_at_call 25; refine (clear_all side HTd.out.rp HG.out HUL.out).mono ?_; rintro e w4 ⟨he4, F4, hr4, hk4, hg4⟩; rw [hr] at he4; subst he4; have HT4 : Hid (Two B w4 p q ((opT s side 0).2) s F4 G) := HTd.out.left hr4 hk4 hg4; have HG4 : Hid (Grew F F4 W3.drew) := hg4; have HBX4 : Hid (Blk w4 Q 30 [.int .i64 kind, .int .i64 side, .int .i64 n, .slice da bs2.length dc]) := (hk4.block HZ.out HQF.out).trans HBXd.out;  have HB4 : Hid (Below B w w4) := (HBd.out.mono HBQ.out).trans (hk4.below HTd.out.loF HTd.out.lo); have HK4 : Hid (W3.drew.heap.size ≤ w4.heap.size) := hk4.size; have HKF4 := Lib.hid hk4; have y14 := HBX4.out.cell 1; clear hr4 hk4 hg4)
    | (go_at_call 27; refine (rtrim_all side 0 HT4.out.rq HG.out HUL.out).mono ?_; rintro e w5 ⟨he5, G5, hr5, hk5, hg5⟩; rw [hr] at he5; subst he5; have HT5 : Hid (Two B w5 p q ((opT s side 0).2) ((opT s side 0).2) F4 G5) := HT4.out.right hr5 hk5 hg5; have HG5 : Hid (Grew G G5 w4) := hg5; have HBX5 : Hid (Blk w5 Q 30 [.int .i64 kind, .int .i64 side, .int .i64 n, .slice da bs2.length dc]) := (hk5.block (Nat.lt_of_lt_of_le HZ.out HK4.out) HQG.out).trans HBX4.out; have HB5 : Hid (Below B w w5) := HB4.out.trans (hk5.below HT4.out.loG HT4.out.lo); have HKG5 := Lib.hid hk5; have y15 := HBX5.out.cell 1; clear hr5 hk5 hg5)))
  go_wp2_with fail
  go_ret
  exact ⟨rfl, ⟨_, _, _, HT5.out, HGD.out.1, by have := HGD.out.2; have := HS2.out; omega, grew_at HG4.out HZ.out HQ.out, grew_at HG5.out (Nat.lt_of_lt_of_le HZ.out HK4.out) HQ.out⟩, HB5.out, kept_fg HBd.out HQ.out HKF4.out HKG5.out⟩
set_option maxRecDepth 100000 in
set_option maxHeartbeats 4000000 in
theorem does_trim {B : Nat} {w : World} {p q : Nat} {s : TSt} {F G : Nat → Prop} (d : Dd) (h : Two B w p q s s F G) (hg : s.good) (hl : s.us.length ≤ 900000) (hd : d.ok w) (hfd : ∀ a, d.da = some a → d.bs ≠ [] → ¬ F a.block ∧ ¬ G a.block) (hkind : pickF d.kind 6 = 2) :
    Calls Try.prog 11 #[.pointer (some ⟨p, 0, none⟩), .pointer (some ⟨q, 0, none⟩), .agg d.cells.toArray] w (Acted B p q s F G w) := by
  have HT := Lib.hid h
  have HG := Lib.hid hg
  have HUL : Hid (s.us.length ≤ 1000000) := by unfold Hid; omega
  have HUL9 : Hid (s.us.length ≤ 900000) := hl
  obtain ⟨kind, side, n, da, bs, dc⟩ := d
  have HOK := Lib.hid hd
  have HFD := Lib.hid hfd
  clear h hd hfd hg hl
  rw [show (Dd.cells ⟨kind, side, n, da, bs, dc⟩).toArray = #[.int .i64 kind, .int .i64 side, .int .i64 n, .slice da bs.length dc] from rfl]
  have HFW := Lib.hid (few_any da dc bs (w.alloc (.cells #[.int .i64 kind, .int .i64 side, .int .i64 n, .slice da bs.length dc] 30)) (HOK.out.rd.alloc _) HOK.out.ld HOK.out.md)
  have HS2 : Hid ((bs.take 60).length ≤ 60) := by unfold Hid; simp; omega
  have HRD : Hid (Rd w da (bvals (bs.take 60))) := by
    have := HOK.out.rd.take 60
    rw [← bvals_take] at this
    exact this
  have HFD3 : Hid (∀ a, da = some a → bs.take 60 ≠ [] → ¬ F a.block ∧ ¬ G a.block) := fun a ha hne => HFD.out a ha (fun e => hne (by simp only at e; rw [e]; rfl))
  have HKD := Lib.hid (HOK.out.k0)
  have HND := Lib.hid (HOK.out.n0)
  clear HOK HFD
  generalize hb2 : bs.take 60 = bs2 at *
  clear hb2
  generalize hbl : bs.length = bsl at *
  clear hbl
  go_enter Try.func11, Try.ntmps11
  go_wp2_with fail
  refine HFW.out.mono ?_
  rintro e w' ⟨rfl, rfl⟩
  clear HFW
  go_wp2_with fail
  generalize hQ : w.heap.size = Q at *
  have HQ := Lib.hid hQ
  have HBX3 : Hid (Blk (w.alloc (.cells #[.int .i64 kind, .int .i64 side, .int .i64 n, .slice da bs2.length dc] 30)) Q 30 [.int .i64 kind, .int .i64 side, .int .i64 n, .slice da bs2.length dc]) := by
    rw [← HQ.out]
    exact Blk.new w 30 _
  have HB3 : Hid (Below Q w (w.alloc (.cells #[.int .i64 kind, .int .i64 side, .int .i64 n, .slice da bs2.length dc] 30))) := by
    rw [← HQ.out]
    exact (Below.refl _ _).alloc (Nat.le_refl _) _
  have HT3 : Hid (Two B (w.alloc (.cells #[.int .i64 kind, .int .i64 side, .int .i64 n, .slice da bs2.length dc] 30)) p q s s F G) := HT.out.below ((Below.refl _ _).alloc (Nat.le_refl _) _)
  have HRD3 : Hid (Rd (w.alloc (.cells #[.int .i64 kind, .int .i64 side, .int .i64 n, .slice da bs2.length dc] 30)) da (bvals bs2)) := HRD.out.alloc _
  have HQF : Hid (¬ F Q) := fun hF => by have := HT.out.rp.lt _ hF; have := HQ.out; omega
  have HQG : Hid (¬ G Q) := fun hG => by have := HT.out.rq.lt _ hG; have := HQ.out; omega
  have HBQ : Hid (B ≤ Q) := by have := HT.out.lo; have := HQ.out; unfold Hid; omega
  clear hQ HRD HT
  generalize hW3 : w.alloc (.cells #[.int .i64 kind, .int .i64 side, .int .i64 n, .slice da bs2.length dc] 30) = W3 at *
  clear hW3
  refine (pick_any kind 6 W3 HKD.out.1 HKD.out.2 (by omega) (by omega)).mono ?_
  rintro e w' ⟨rfl, rfl⟩
  rw [show pickF kind 6 = 2 from hkind]
  clear hkind
  have HTd : Hid (Two B W3.drew p q s s F G) := HT3.out.drewN 1
  have HBXd : Hid (Blk W3.drew Q 30 [.int .i64 kind, .int .i64 side, .int .i64 n, .slice da bs2.length dc]) := HBX3.out.drewN 1
  have HBd : Hid (Below Q w W3.drew) := Below.drewN_ HB3.out 1
  have HRDd : Hid (Rd W3.drew da (bvals bs2)) := HRD3.out.drew
  have HZ : Hid (Q < W3.drew.heap.size) := HBXd.out.lt
  have y1 := HBX3.out.cell 1
  have y2 := HBX3.out.cell 2
  have y3 := HBX3.out.cell 3
  have hee : (((opT s side n).1) == ((opT s side n).1)) = true := by simp
  have HGD := Lib.hid (opT_good HG.out side n)
  obtain ⟨r, hr0⟩ : ∃ r, (opT s side n).1 = r := ⟨_, rfl⟩
  rw [hr0] at hee
  have hr := hr0
  clear hr0
  go_wp2_with fail
  go_region_held3 (fun w' => w'.cell? ⟨Q, 1, none⟩ = some (.int .i64 side) ∧ w'.cell? ⟨Q, 2, none⟩ = some (.int .i64 n)) (go_keep) ((first
    | (go_at_call 24; refine (trim_all side n HTd.out.rp HG.out HUL.out).mono ?_; rintro e w4 ⟨he4, F4, hr4, hk4, hg4⟩; rw [hr] at he4; subst he4; have HT4 : Hid (Two B w4 p q ((opT s side n).2) s F4 G) := HTd.out.left hr4 hk4 hg4; have HG4 : Hid (Grew F F4 W3.drew) := hg4; have HBX4 : Hid (Blk w4 Q 30 [.int .i64 kind, .int .i64 side, .int .i64 n, .slice da bs2.length dc]) := (hk4.block HZ.out HQF.out).trans HBXd.out;  have HB4 : Hid (Below B w w4) := (HBd.out.mono HBQ.out).trans (hk4.below HTd.out.loF HTd.out.lo); have HK4 : Hid (W3.drew.heap.size ≤ w4.heap.size) := hk4.size; have HKF4 := Lib.hid hk4; have y14 := HBX4.out.cell 1; have y24 := HBX4.out.cell 2; clear hr4 hk4 hg4)
    | (go_at_call 27; refine (rtrim_all side n HT4.out.rq HG.out HUL.out).mono ?_; rintro e w5 ⟨he5, G5, hr5, hk5, hg5⟩; rw [hr] at he5; subst he5; have HT5 : Hid (Two B w5 p q ((opT s side n).2) ((opT s side n).2) F4 G5) := HT4.out.right hr5 hk5 hg5; have HG5 : Hid (Grew G G5 w4) := hg5; have HBX5 : Hid (Blk w5 Q 30 [.int .i64 kind, .int .i64 side, .int .i64 n, .slice da bs2.length dc]) := (hk5.block (Nat.lt_of_lt_of_le HZ.out HK4.out) HQG.out).trans HBX4.out; have HB5 : Hid (Below B w w5) := HB4.out.trans (hk5.below HT4.out.loG HT4.out.lo); have HKG5 := Lib.hid hk5; have y15 := HBX5.out.cell 1; have y25 := HBX5.out.cell 2; clear hr5 hk5 hg5)))
  go_wp2_with fail
  go_ret
  exact ⟨rfl, ⟨_, _, _, HT5.out, HGD.out.1, by have := HGD.out.2; have := HS2.out; omega, grew_at HG4.out HZ.out HQ.out, grew_at HG5.out (Nat.lt_of_lt_of_le HZ.out HK4.out) HQ.out⟩, HB5.out, kept_fg HBd.out HQ.out HKF4.out HKG5.out⟩
set_option maxRecDepth 100000 in
set_option maxHeartbeats 4000000 in
theorem does_fuse {B : Nat} {w : World} {p q : Nat} {s : TSt} {F G : Nat → Prop} (d : Dd) (h : Two B w p q s s F G) (hg : s.good) (hl : s.us.length ≤ 900000) (hd : d.ok w) (hfd : ∀ a, d.da = some a → d.bs ≠ [] → ¬ F a.block ∧ ¬ G a.block) (hkind : pickF d.kind 6 = 4) :
    Calls Try.prog 11 #[.pointer (some ⟨p, 0, none⟩), .pointer (some ⟨q, 0, none⟩), .agg d.cells.toArray] w (Acted B p q s F G w) := by
  have HT := Lib.hid h
  have HG := Lib.hid hg
  have HUL : Hid (s.us.length ≤ 1000000) := by unfold Hid; omega
  have HUL9 : Hid (s.us.length ≤ 900000) := hl
  obtain ⟨kind, side, n, da, bs, dc⟩ := d
  have HOK := Lib.hid hd
  have HFD := Lib.hid hfd
  clear h hd hfd hg hl
  rw [show (Dd.cells ⟨kind, side, n, da, bs, dc⟩).toArray = #[.int .i64 kind, .int .i64 side, .int .i64 n, .slice da bs.length dc] from rfl]
  have HFW := Lib.hid (few_any da dc bs (w.alloc (.cells #[.int .i64 kind, .int .i64 side, .int .i64 n, .slice da bs.length dc] 30)) (HOK.out.rd.alloc _) HOK.out.ld HOK.out.md)
  have HS2 : Hid ((bs.take 60).length ≤ 60) := by unfold Hid; simp; omega
  have HRD : Hid (Rd w da (bvals (bs.take 60))) := by
    have := HOK.out.rd.take 60
    rw [← bvals_take] at this
    exact this
  have HFD3 : Hid (∀ a, da = some a → bs.take 60 ≠ [] → ¬ F a.block ∧ ¬ G a.block) := fun a ha hne => HFD.out a ha (fun e => hne (by simp only at e; rw [e]; rfl))
  have HKD := Lib.hid (HOK.out.k0)
  have HND := Lib.hid (HOK.out.n0)
  clear HOK HFD
  generalize hb2 : bs.take 60 = bs2 at *
  clear hb2
  generalize hbl : bs.length = bsl at *
  clear hbl
  go_enter Try.func11, Try.ntmps11
  go_wp2_with fail
  refine HFW.out.mono ?_
  rintro e w' ⟨rfl, rfl⟩
  clear HFW
  go_wp2_with fail
  generalize hQ : w.heap.size = Q at *
  have HQ := Lib.hid hQ
  have HBX3 : Hid (Blk (w.alloc (.cells #[.int .i64 kind, .int .i64 side, .int .i64 n, .slice da bs2.length dc] 30)) Q 30 [.int .i64 kind, .int .i64 side, .int .i64 n, .slice da bs2.length dc]) := by
    rw [← HQ.out]
    exact Blk.new w 30 _
  have HB3 : Hid (Below Q w (w.alloc (.cells #[.int .i64 kind, .int .i64 side, .int .i64 n, .slice da bs2.length dc] 30))) := by
    rw [← HQ.out]
    exact (Below.refl _ _).alloc (Nat.le_refl _) _
  have HT3 : Hid (Two B (w.alloc (.cells #[.int .i64 kind, .int .i64 side, .int .i64 n, .slice da bs2.length dc] 30)) p q s s F G) := HT.out.below ((Below.refl _ _).alloc (Nat.le_refl _) _)
  have HRD3 : Hid (Rd (w.alloc (.cells #[.int .i64 kind, .int .i64 side, .int .i64 n, .slice da bs2.length dc] 30)) da (bvals bs2)) := HRD.out.alloc _
  have HQF : Hid (¬ F Q) := fun hF => by have := HT.out.rp.lt _ hF; have := HQ.out; omega
  have HQG : Hid (¬ G Q) := fun hG => by have := HT.out.rq.lt _ hG; have := HQ.out; omega
  have HBQ : Hid (B ≤ Q) := by have := HT.out.lo; have := HQ.out; unfold Hid; omega
  clear hQ HRD HT
  generalize hW3 : w.alloc (.cells #[.int .i64 kind, .int .i64 side, .int .i64 n, .slice da bs2.length dc] 30) = W3 at *
  clear hW3
  refine (pick_any kind 6 W3 HKD.out.1 HKD.out.2 (by omega) (by omega)).mono ?_
  rintro e w' ⟨rfl, rfl⟩
  rw [show pickF kind 6 = 4 from hkind]
  clear hkind
  have HTd : Hid (Two B W3.drew p q s s F G) := HT3.out.drewN 1
  have HBXd : Hid (Blk W3.drew Q 30 [.int .i64 kind, .int .i64 side, .int .i64 n, .slice da bs2.length dc]) := HBX3.out.drewN 1
  have HBd : Hid (Below Q w W3.drew) := Below.drewN_ HB3.out 1
  have HRDd : Hid (Rd W3.drew da (bvals bs2)) := HRD3.out.drew
  have HZ : Hid (Q < W3.drew.heap.size) := HBXd.out.lt
  have y1 := HBX3.out.cell 1
  have y2 := HBX3.out.cell 2
  have y3 := HBX3.out.cell 3
  have hee : (((opF s n).1) == ((opF s n).1)) = true := by simp
  have HGD := Lib.hid (opF_good HG.out n)
  obtain ⟨r, hr0⟩ : ∃ r, (opF s n).1 = r := ⟨_, rfl⟩
  rw [hr0] at hee
  have hr := hr0
  clear hr0
  go_wp2_with fail
  go_region_held3 (fun w' => w'.cell? ⟨Q, 2, none⟩ = some (.int .i64 n)) (go_keep) ((first
    | (go_at_call 23; refine (fuse_all n HTd.out.rp).mono ?_; rintro e w4 ⟨he4, F4, hr4, hk4, hg4⟩; rw [hr] at he4; subst he4; have HT4 : Hid (Two B w4 p q ((opF s n).2) s F4 G) := HTd.out.left hr4 hk4 hg4; have HG4 : Hid (Grew F F4 W3.drew) := hg4; have HBX4 : Hid (Blk w4 Q 30 [.int .i64 kind, .int .i64 side, .int .i64 n, .slice da bs2.length dc]) := (hk4.block HZ.out HQF.out).trans HBXd.out;  have HB4 : Hid (Below B w w4) := (HBd.out.mono HBQ.out).trans (hk4.below HTd.out.loF HTd.out.lo); have HK4 : Hid (W3.drew.heap.size ≤ w4.heap.size) := hk4.size; have HKF4 := Lib.hid hk4; have y24 := HBX4.out.cell 2; clear hr4 hk4 hg4)
    | (go_at_call 29; refine (rfuse_all n HT4.out.rq).mono ?_; rintro e w5 ⟨he5, G5, hr5, hk5, hg5⟩; rw [hr] at he5; subst he5; have HT5 : Hid (Two B w5 p q ((opF s n).2) ((opF s n).2) F4 G5) := HT4.out.right hr5 hk5 hg5; have HG5 : Hid (Grew G G5 w4) := hg5; have HBX5 : Hid (Blk w5 Q 30 [.int .i64 kind, .int .i64 side, .int .i64 n, .slice da bs2.length dc]) := (hk5.block (Nat.lt_of_lt_of_le HZ.out HK4.out) HQG.out).trans HBX4.out; have HB5 : Hid (Below B w w5) := HB4.out.trans (hk5.below HT4.out.loG HT4.out.lo); have HKG5 := Lib.hid hk5; have y25 := HBX5.out.cell 2; clear hr5 hk5 hg5)))
  go_wp2_with fail
  go_ret
  exact ⟨rfl, ⟨_, _, _, HT5.out, HGD.out.1, by have := HGD.out.2; have := HS2.out; omega, grew_at HG4.out HZ.out HQ.out, grew_at HG5.out (Nat.lt_of_lt_of_le HZ.out HK4.out) HQ.out⟩, HB5.out, kept_fg HBd.out HQ.out HKF4.out HKG5.out⟩
set_option maxRecDepth 100000 in
set_option maxHeartbeats 4000000 in
theorem does_sync {B : Nat} {w : World} {p q : Nat} {s : TSt} {F G : Nat → Prop} (d : Dd) (h : Two B w p q s s F G) (hg : s.good) (hl : s.us.length ≤ 900000) (hd : d.ok w) (hfd : ∀ a, d.da = some a → d.bs ≠ [] → ¬ F a.block ∧ ¬ G a.block) (hkind : pickF d.kind 6 = 3) :
    Calls Try.prog 11 #[.pointer (some ⟨p, 0, none⟩), .pointer (some ⟨q, 0, none⟩), .agg d.cells.toArray] w (Acted B p q s F G w) := by
  have HT := Lib.hid h
  have HG := Lib.hid hg
  have HUL : Hid (s.us.length ≤ 1000000) := by unfold Hid; omega
  have HUL9 : Hid (s.us.length ≤ 900000) := hl
  obtain ⟨kind, side, n, da, bs, dc⟩ := d
  have HOK := Lib.hid hd
  have HFD := Lib.hid hfd
  clear h hd hfd hg hl
  rw [show (Dd.cells ⟨kind, side, n, da, bs, dc⟩).toArray = #[.int .i64 kind, .int .i64 side, .int .i64 n, .slice da bs.length dc] from rfl]
  have HFW := Lib.hid (few_any da dc bs (w.alloc (.cells #[.int .i64 kind, .int .i64 side, .int .i64 n, .slice da bs.length dc] 30)) (HOK.out.rd.alloc _) HOK.out.ld HOK.out.md)
  have HS2 : Hid ((bs.take 60).length ≤ 60) := by unfold Hid; simp; omega
  have HRD : Hid (Rd w da (bvals (bs.take 60))) := by
    have := HOK.out.rd.take 60
    rw [← bvals_take] at this
    exact this
  have HFD3 : Hid (∀ a, da = some a → bs.take 60 ≠ [] → ¬ F a.block ∧ ¬ G a.block) := fun a ha hne => HFD.out a ha (fun e => hne (by simp only at e; rw [e]; rfl))
  have HKD := Lib.hid (HOK.out.k0)
  have HND := Lib.hid (HOK.out.n0)
  clear HOK HFD
  generalize hb2 : bs.take 60 = bs2 at *
  clear hb2
  generalize hbl : bs.length = bsl at *
  clear hbl
  go_enter Try.func11, Try.ntmps11
  go_wp2_with fail
  refine HFW.out.mono ?_
  rintro e w' ⟨rfl, rfl⟩
  clear HFW
  go_wp2_with fail
  generalize hQ : w.heap.size = Q at *
  have HQ := Lib.hid hQ
  have HBX3 : Hid (Blk (w.alloc (.cells #[.int .i64 kind, .int .i64 side, .int .i64 n, .slice da bs2.length dc] 30)) Q 30 [.int .i64 kind, .int .i64 side, .int .i64 n, .slice da bs2.length dc]) := by
    rw [← HQ.out]
    exact Blk.new w 30 _
  have HB3 : Hid (Below Q w (w.alloc (.cells #[.int .i64 kind, .int .i64 side, .int .i64 n, .slice da bs2.length dc] 30))) := by
    rw [← HQ.out]
    exact (Below.refl _ _).alloc (Nat.le_refl _) _
  have HT3 : Hid (Two B (w.alloc (.cells #[.int .i64 kind, .int .i64 side, .int .i64 n, .slice da bs2.length dc] 30)) p q s s F G) := HT.out.below ((Below.refl _ _).alloc (Nat.le_refl _) _)
  have HRD3 : Hid (Rd (w.alloc (.cells #[.int .i64 kind, .int .i64 side, .int .i64 n, .slice da bs2.length dc] 30)) da (bvals bs2)) := HRD.out.alloc _
  have HQF : Hid (¬ F Q) := fun hF => by have := HT.out.rp.lt _ hF; have := HQ.out; omega
  have HQG : Hid (¬ G Q) := fun hG => by have := HT.out.rq.lt _ hG; have := HQ.out; omega
  have HBQ : Hid (B ≤ Q) := by have := HT.out.lo; have := HQ.out; unfold Hid; omega
  clear hQ HRD HT
  generalize hW3 : w.alloc (.cells #[.int .i64 kind, .int .i64 side, .int .i64 n, .slice da bs2.length dc] 30) = W3 at *
  clear hW3
  refine (pick_any kind 6 W3 HKD.out.1 HKD.out.2 (by omega) (by omega)).mono ?_
  rintro e w' ⟨rfl, rfl⟩
  rw [show pickF kind 6 = 3 from hkind]
  clear hkind
  have HTd : Hid (Two B W3.drew p q s s F G) := HT3.out.drewN 1
  have HBXd : Hid (Blk W3.drew Q 30 [.int .i64 kind, .int .i64 side, .int .i64 n, .slice da bs2.length dc]) := HBX3.out.drewN 1
  have HBd : Hid (Below Q w W3.drew) := Below.drewN_ HB3.out 1
  have HRDd : Hid (Rd W3.drew da (bvals bs2)) := HRD3.out.drew
  have HZ : Hid (Q < W3.drew.heap.size) := HBXd.out.lt
  have y1 := HBX3.out.cell 1
  have y2 := HBX3.out.cell 2
  have y3 := HBX3.out.cell 3
  have hee : (((opS s).1) == ((opS s).1)) = true := by simp
  have HGD := Lib.hid (opS_good HG.out)
  have HS := sync_all HT3.out.rp HG.out
  have HRS : Hid (∀ (w4 : World) (F4 : Nat → Prop), Two B w4 p q (opS s).2 s F4 G → Calls Try.prog 28 #[.pointer (some ⟨q, 0, none⟩)] w4 (Did (fun w' => Rt w' q (opS s).2) G (.returned (.int .i64 (opS s).1)) w4)) := fun w4 F4 ht => rsync_all ht.rq HG.out HUL.out
  generalize (opS s).1 = r at *
  have HSS := Lib.hid HS
  clear HS y1 y2 y3
  go_wp2_with fail
  refine HSS.out.mono ?_
  rintro e w4 ⟨rfl, F4, hr4, hk4, hg4⟩
  have HT4 : Hid (Two B w4 p q (opS s).2 s F4 G) := HT3.out.left hr4 hk4 hg4
  have HG4 : Hid (Grew F F4 W3) := hg4
  have HB4 : Hid (Below B w w4) := (HB3.out.mono HBQ.out).trans (hk4.below HT3.out.loF HT3.out.lo)
  have HK4 : Hid (W3.heap.size ≤ w4.heap.size) := hk4.size
  have HKF4 := Lib.hid hk4
  clear hr4 hk4 hg4 HSS
  go_wp2_with fail
  refine (HRS.out _ _ HT4.out).mono ?_
  rintro e w5 ⟨rfl, G5, hr5, hk5, hg5⟩
  have HT5 := Lib.hid (HT4.out.right hr5 hk5 hg5)
  have HG5 : Hid (Grew G G5 w4) := hg5
  have HB5 : Hid (Below B w w5) := HB4.out.trans (hk5.below HT4.out.loG HT4.out.lo)
  have HKG5 := Lib.hid hk5
  clear hr5 hk5 hg5 HRS
  go_wp2_with fail
  go_ret
  exact ⟨rfl, ⟨_, _, _, HT5.out, HGD.out.1, by have := HGD.out.2; omega, grew_at HG4.out HZ.out HQ.out, grew_at HG5.out (Nat.lt_of_lt_of_le HZ.out HK4.out) HQ.out⟩, HB5.out, kept_fg HB3.out HQ.out HKF4.out HKG5.out⟩
set_option maxRecDepth 100000 in
set_option maxHeartbeats 4000000 in
theorem does_crash {B : Nat} {w : World} {p q : Nat} {s : TSt} {F G : Nat → Prop} (d : Dd) (h : Two B w p q s s F G) (hg : s.good) (hl : s.us.length ≤ 900000) (hd : d.ok w) (hfd : ∀ a, d.da = some a → d.bs ≠ [] → ¬ F a.block ∧ ¬ G a.block) (hkind : pickF d.kind 6 = 5) :
    Calls Try.prog 11 #[.pointer (some ⟨p, 0, none⟩), .pointer (some ⟨q, 0, none⟩), .agg d.cells.toArray] w (Acted B p q s F G w) := by
  have HT := Lib.hid h
  have HG := Lib.hid hg
  have HUL : Hid (s.us.length ≤ 1000000) := by unfold Hid; omega
  have HUL9 : Hid (s.us.length ≤ 900000) := hl
  obtain ⟨kind, side, n, da, bs, dc⟩ := d
  have HOK := Lib.hid hd
  have HFD := Lib.hid hfd
  clear h hd hfd hg hl
  rw [show (Dd.cells ⟨kind, side, n, da, bs, dc⟩).toArray = #[.int .i64 kind, .int .i64 side, .int .i64 n, .slice da bs.length dc] from rfl]
  have HFW := Lib.hid (few_any da dc bs (w.alloc (.cells #[.int .i64 kind, .int .i64 side, .int .i64 n, .slice da bs.length dc] 30)) (HOK.out.rd.alloc _) HOK.out.ld HOK.out.md)
  have HS2 : Hid ((bs.take 60).length ≤ 60) := by unfold Hid; simp; omega
  have HRD : Hid (Rd w da (bvals (bs.take 60))) := by
    have := HOK.out.rd.take 60
    rw [← bvals_take] at this
    exact this
  have HFD3 : Hid (∀ a, da = some a → bs.take 60 ≠ [] → ¬ F a.block ∧ ¬ G a.block) := fun a ha hne => HFD.out a ha (fun e => hne (by simp only at e; rw [e]; rfl))
  have HKD := Lib.hid (HOK.out.k0)
  have HND := Lib.hid (HOK.out.n0)
  clear HOK HFD
  generalize hb2 : bs.take 60 = bs2 at *
  clear hb2
  generalize hbl : bs.length = bsl at *
  clear hbl
  go_enter Try.func11, Try.ntmps11
  go_wp2_with fail
  refine HFW.out.mono ?_
  rintro e w' ⟨rfl, rfl⟩
  clear HFW
  go_wp2_with fail
  generalize hQ : w.heap.size = Q at *
  have HQ := Lib.hid hQ
  have HBX3 : Hid (Blk (w.alloc (.cells #[.int .i64 kind, .int .i64 side, .int .i64 n, .slice da bs2.length dc] 30)) Q 30 [.int .i64 kind, .int .i64 side, .int .i64 n, .slice da bs2.length dc]) := by
    rw [← HQ.out]
    exact Blk.new w 30 _
  have HB3 : Hid (Below Q w (w.alloc (.cells #[.int .i64 kind, .int .i64 side, .int .i64 n, .slice da bs2.length dc] 30))) := by
    rw [← HQ.out]
    exact (Below.refl _ _).alloc (Nat.le_refl _) _
  have HT3 : Hid (Two B (w.alloc (.cells #[.int .i64 kind, .int .i64 side, .int .i64 n, .slice da bs2.length dc] 30)) p q s s F G) := HT.out.below ((Below.refl _ _).alloc (Nat.le_refl _) _)
  have HRD3 : Hid (Rd (w.alloc (.cells #[.int .i64 kind, .int .i64 side, .int .i64 n, .slice da bs2.length dc] 30)) da (bvals bs2)) := HRD.out.alloc _
  have HQF : Hid (¬ F Q) := fun hF => by have := HT.out.rp.lt _ hF; have := HQ.out; omega
  have HQG : Hid (¬ G Q) := fun hG => by have := HT.out.rq.lt _ hG; have := HQ.out; omega
  have HBQ : Hid (B ≤ Q) := by have := HT.out.lo; have := HQ.out; unfold Hid; omega
  clear hQ HRD HT
  generalize hW3 : w.alloc (.cells #[.int .i64 kind, .int .i64 side, .int .i64 n, .slice da bs2.length dc] 30) = W3 at *
  clear hW3
  refine (pick_any kind 6 W3 HKD.out.1 HKD.out.2 (by omega) (by omega)).mono ?_
  rintro e w' ⟨rfl, rfl⟩
  rw [show pickF kind 6 = 5 from hkind]
  clear hkind
  have HTd : Hid (Two B W3.drew p q s s F G) := HT3.out.drewN 1
  have HBXd : Hid (Blk W3.drew Q 30 [.int .i64 kind, .int .i64 side, .int .i64 n, .slice da bs2.length dc]) := HBX3.out.drewN 1
  have HBd : Hid (Below Q w W3.drew) := Below.drewN_ HB3.out 1
  have HRDd : Hid (Rd W3.drew da (bvals bs2)) := HRD3.out.drew
  have HZ : Hid (Q < W3.drew.heap.size) := HBXd.out.lt
  have y1 := HBX3.out.cell 1
  have y2 := HBX3.out.cell 2
  have y3 := HBX3.out.cell 3
  have HGD := Lib.hid (opC_good HG.out n)
  clear y1 y3
  go_wp2_with fail
  refine (crash_any n HT3.out.rp HG.out HND.out.1 HND.out.2 HUL.out).mono ?_
  rintro e w4 ⟨rfl, F4, hr4, hk4, hg4⟩
  have HT4 : Hid (Two B w4 p q (opC s n) s F4 G) := HT3.out.left hr4 hk4 hg4
  have HG4 : Hid (Grew F F4 W3) := hg4
  have HB4 : Hid (Below B w w4) := (HB3.out.mono HBQ.out).trans (hk4.below HT3.out.loF HT3.out.lo)
  have HK4 : Hid (W3.heap.size ≤ w4.heap.size) := hk4.size
  have HKF4 := Lib.hid hk4
  have HBX4 : Hid (Blk w4 Q 30 [.int .i64 kind, .int .i64 side, .int .i64 n, .slice da bs2.length dc]) := (hk4.block HBX3.out.lt HQF.out).trans HBX3.out
  have y24 := HBX4.out.cell 2
  clear hr4 hk4 hg4
  go_wp2_with fail
  refine (rcrash_any n HT4.out.rq HG.out HND.out.1 HND.out.2 HUL.out).mono ?_
  rintro e w5 ⟨rfl, G5, hr5, hk5, hg5⟩
  have HT5 : Hid (Two B w5 p q (opC s n) (opC s n) F4 G5) := HT4.out.right hr5 hk5 hg5
  have HG5 : Hid (Grew G G5 w4) := hg5
  have HB5 : Hid (Below B w w5) := HB4.out.trans (hk5.below HT4.out.loG HT4.out.lo)
  have HKG5 := Lib.hid hk5
  clear hr5 hk5 hg5
  go_wp2_with fail
  go_ret
  exact ⟨rfl, ⟨_, _, _, HT5.out, HGD.out.1, by have := HGD.out.2; omega, grew_at HG4.out HZ.out HQ.out, grew_at HG5.out (Nat.lt_of_lt_of_le HZ.out HK4.out) HQ.out⟩, HB5.out, kept_fg HB3.out HQ.out HKF4.out HKG5.out⟩
theorem acts_any {B : Nat} {w : World} {p q : Nat} {s : TSt} {F G : Nat → Prop} (d : Dd) (h : Two B w p q s s F G) (hg : s.good) (hl : s.us.length ≤ 900000) (hd : d.ok w) (hfd : ∀ a, d.da = some a → d.bs ≠ [] → ¬ F a.block ∧ ¬ G a.block) :
    Calls Try.prog 11 #[.pointer (some ⟨p, 0, none⟩), .pointer (some ⟨q, 0, none⟩), .agg d.cells.toArray] w (Acted B p q s F G w) := by
  have h6 := pick_lt d.kind 6 (by omega)
  rcases (show pickF d.kind 6 = 0 ∨ pickF d.kind 6 = 1 ∨ pickF d.kind 6 = 2 ∨ pickF d.kind 6 = 3 ∨ pickF d.kind 6 = 4 ∨ pickF d.kind 6 = 5 by omega) with e | e | e | e | e | e
  · exact does_write d h hg hl hd hfd e
  · exact does_clear d h hg hl hd hfd e
  · exact does_trim d h hg hl hd hfd e
  · exact does_sync d h hg hl hd hfd e
  · exact does_fuse d h hg hl hd hfd e
  · exact does_crash d h hg hl hd hfd e
end Go.Proofs.Ytpcmfbdlfjlobaa
