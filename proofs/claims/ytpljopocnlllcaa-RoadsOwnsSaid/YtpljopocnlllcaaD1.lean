/- Deeds; two structures side by side; pick and cut. -/
import Derived.Test.YtpljopocnlllcaaR4
import Derived.Test.YtpljopocnlllcaaR10
import Derived.Test.YtpljopocnlllcaaSM
namespace Go.Proofs.Ytpljopocnlllcaa
open Go.RowKit
attribute [local go_sem ↓] Go.wp_at_zero Go.wp_at_succ
structure Two (B : Nat) (w : World) (p q : Nat) (s t : St) (F G : Nat → Prop) : Prop where
  rp : Rep 51 64 w p s F
  rq : Rep 54 57 w q t G
  dis : ∀ k, F k → ¬ G k
  loF : ∀ k, F k → B ≤ k
  loG : ∀ k, G k → B ≤ k
  lo : B ≤ w.heap.size
section
variable {B : Nat} {w w' : World} {p q : Nat} {s s' t t' : St} {F F' G G' : Nat → Prop}
theorem Two.left (h : Two B w p q s t F G) (hr : Rep 51 64 w' p s' F') (hk : Kept F w w') (hg : Grew F F' w) : Two B w' p q s' t F' G :=
  { rp := hr
    rq := h.rq.kept hk fun k hG hF => h.dis k hF hG
    dis := apart_grew h.dis hg h.rq.lt
    loF := fun k hk' => by
      rcases hg k hk' with h1 | h1
      · exact h.loF k h1
      · exact Nat.le_trans h.lo h1
    loG := h.loG
    lo := Nat.le_trans h.lo hk.size }
theorem Two.right (h : Two B w p q s t F G) (hr : Rep 54 57 w' q t' G') (hk : Kept G w w') (hg : Grew G G' w) : Two B w' p q s t' F G' :=
  { rp := h.rp.kept hk h.dis
    rq := hr
    dis := fun k hF hG => apart_grew (fun k hG hF => h.dis k hF hG) hg h.rp.lt k hG hF
    loF := h.loF
    loG := fun k hk' => by
      rcases hg k hk' with h1 | h1
      · exact h.loG k h1
      · exact Nat.le_trans h.lo h1
    lo := Nat.le_trans h.lo hk.size }
theorem Two.below (h : Two B w p q s t F G) (hb : Below w.heap.size w w') : Two B w' p q s t F G :=
  { rp := h.rp.kept (Kept.of_below (fun _ => False) hb) (fun _ _ h => h)
    rq := h.rq.kept (Kept.of_below (fun _ => False) hb) (fun _ _ h => h)
    dis := h.dis, loF := h.loF, loG := h.loG, lo := Nat.le_trans h.lo hb.size }
theorem Two.drewN (h : Two B w p q s t F G) (n : Nat) : Two B (w.drewN n) p q s t F G := h.below ⟨rfl, rfl, rfl, Nat.le_refl _, fun _ _ => rfl⟩
end
structure St.fine (s : St) : Prop where
  good : s.good
  small : ∀ x ∈ s.ps, x.2.length ≤ 1000
theorem passSt_fine {s : St} (h : s.fine) (n : Int) (sk : List Int) : (passSt s n sk).fine := ⟨passSt_good s n sk h.good, h.small⟩
theorem erase_fine {s : St} (h : s.fine) (k : Nat) : (St.mk s.time s.clocks (s.ps.eraseIdx k)).fine :=
  ⟨⟨h.good.n0, h.good.n1, Nat.le_trans (List.length_eraseIdx_le _ _) h.good.p1, h.good.t0, h.good.t1⟩, fun x hx => h.small x (List.mem_of_mem_eraseIdx hx)⟩
theorem sendSt_fine {s : St} (h : s.fine) (to : Int) (bs : List UInt8) (hb : bs.length ≤ 1000) : (sendSt s to bs).fine := by
  have hs : ∀ x ∈ s.ps ++ [(to, bs)], x.2.length ≤ 1000 := fun x hx => by
    rcases List.mem_append.1 hx with hx | hx
    · exact h.small x hx
    · obtain rfl := List.mem_singleton.1 hx; exact hb
  have hp := h.good.p1
  unfold sendSt
  by_cases hl : 120 < s.ps.length + 1
  · rw [if_pos hl]
    exact ⟨⟨h.good.n0, h.good.n1, by show ((s.ps ++ [(to, bs)]).eraseIdx 0).length ≤ 120; rw [List.length_eraseIdx]; simp; omega, h.good.t0, h.good.t1⟩, fun x hx => hs x (List.mem_of_mem_eraseIdx hx)⟩
  · rw [if_neg hl]
    exact ⟨⟨h.good.n0, h.good.n1, by show (s.ps ++ [(to, bs)]).length ≤ 120; rw [List.length_append]; simp; omega, h.good.t0, h.good.t1⟩, hs⟩
/-- A deed as it lies. -/
structure Dd where
  kind : Int
  n : Int
  to : Int
  place : Int
  sa : Option Addr
  sk : List Int
  sc : Nat
  da : Option Addr
  bs : List UInt8
  dc : Nat
  stays : Bool
def Dd.cells (d : Dd) : List Value := [.int .i64 d.kind, .int .i64 d.n, .int .i64 d.to, .int .i64 d.place, .slice d.sa d.sk.length d.sc, .slice d.da d.bs.length d.dc, .bool d.stays]
structure Dd.ok (w : World) (d : Dd) : Prop where
  rs : Rd w d.sa (ivals d.sk)
  ls : d.sk.length ≤ d.sc
  ms : d.sc ≤ maxLen
  rd : Rd w d.da (bvals d.bs)
  ld : d.bs.length ≤ d.dc
  md : d.dc ≤ maxLen
  k0 : -9223372036854775808 ≤ d.kind
  k1 : d.kind ≤ 9223372036854775807
theorem Dd.ok.below {w w' : World} {d : Dd} (h : d.ok w) (hb : Below w.heap.size w w') : d.ok w' := ⟨h.rs.below hb, h.ls, h.ms, h.rd.below hb, h.ld, h.md, h.k0, h.k1⟩
def Dd.cut (d : Dd) : Dd := { d with sk := d.sk.take 20, bs := d.bs.take 20 }
def Dd.far (d : Dd) (F : Nat → Prop) : Prop := (∀ a, d.sa = some a → ¬ F a.block) ∧ ∀ a, d.da = some a → ¬ F a.block
theorem Dd.ok.cut {w : World} {d : Dd} (h : d.ok w) : d.cut.ok w := by
  refine ⟨?_, Nat.le_trans (by simp [Dd.cut]; omega) h.ls, h.ms, ?_, Nat.le_trans (by simp [Dd.cut]; omega) h.ld, h.md, h.k0, h.k1⟩
  · have := h.rs.take 20
    simpa [Dd.cut, ivals, List.map_take] using this
  · have := h.rd.take 20
    simpa [Dd.cut, bvals, List.map_take] using this
set_option maxRecDepth 100000 in
set_option maxHeartbeats 2000000 in
theorem cut_any (d : Dd) (w : World) (h : d.ok w) : Calls Try.prog 12 #[.agg d.cells.toArray] w fun e w' => e = .returned (.agg d.cut.cells.toArray) ∧ Below w.heap.size w w' := by
  obtain ⟨kind, n, to, place, sa, sk, sc, da, bs, dc, stays⟩ := d
  have ls := h.ls
  have ms := h.ms
  have ld := h.ld
  have md := h.md
  unfold Dd.cells Dd.cut
  simp only at ls ms ld md ⊢
  unfold maxLen at ms md
  have e1 : Hid ((sk.take 20).length = min 20 sk.length) := List.length_take
  have e2 : Hid ((bs.take 20).length = min 20 bs.length) := List.length_take
  rw [e1.out, e2.out]
  clear h
  by_cases h1 : 20 < sk.length
  · by_cases h2 : 20 < bs.length
    · rw [Nat.min_eq_left (show 20 ≤ sk.length by omega)]
      rw [Nat.min_eq_left (show 20 ≤ bs.length by omega)]
      have f1 : (20 : Int) ≤ (sc : Int) := by omega
      have f2 : (20 : Int) ≤ (dc : Int) := by omega
      go_enter Try.func12, Try.ntmps12
      go_wp2
      all_goals exact bodyPost_ret (v := .agg #[.int .i64 kind, .int .i64 n, .int .i64 to, .int .i64 place, .slice sa 20 sc, .slice da 20 dc, .bool stays]) (by simp [results, Try.results12, go_sem]) rfl ⟨rfl, by repeat (first | exact Below.refl _ _ | refine Below.setCell ?_ (by simp) _ | refine Below.alloc ?_ (by simp) _)⟩
    · rw [Nat.min_eq_left (show 20 ≤ sk.length by omega)]
      rw [Nat.min_eq_right (show bs.length ≤ 20 by omega)]
      have f1 : (20 : Int) ≤ (sc : Int) := by omega
      go_enter Try.func12, Try.ntmps12
      go_wp2
      all_goals exact bodyPost_ret (v := .agg #[.int .i64 kind, .int .i64 n, .int .i64 to, .int .i64 place, .slice sa 20 sc, .slice da bs.length dc, .bool stays]) (by simp [results, Try.results12, go_sem]) rfl ⟨rfl, by repeat (first | exact Below.refl _ _ | refine Below.setCell ?_ (by simp) _ | refine Below.alloc ?_ (by simp) _)⟩
  · by_cases h2 : 20 < bs.length
    · rw [Nat.min_eq_right (show sk.length ≤ 20 by omega)]
      rw [Nat.min_eq_left (show 20 ≤ bs.length by omega)]
      have f2 : (20 : Int) ≤ (dc : Int) := by omega
      go_enter Try.func12, Try.ntmps12
      go_wp2
      all_goals exact bodyPost_ret (v := .agg #[.int .i64 kind, .int .i64 n, .int .i64 to, .int .i64 place, .slice sa sk.length sc, .slice da 20 dc, .bool stays]) (by simp [results, Try.results12, go_sem]) rfl ⟨rfl, by repeat (first | exact Below.refl _ _ | refine Below.setCell ?_ (by simp) _ | refine Below.alloc ?_ (by simp) _)⟩
    · rw [Nat.min_eq_right (show sk.length ≤ 20 by omega)]
      rw [Nat.min_eq_right (show bs.length ≤ 20 by omega)]
      go_enter Try.func12, Try.ntmps12
      go_wp2
      all_goals exact bodyPost_ret (v := .agg #[.int .i64 kind, .int .i64 n, .int .i64 to, .int .i64 place, .slice sa sk.length sc, .slice da bs.length dc, .bool stays]) (by simp [results, Try.results12, go_sem]) rfl ⟨rfl, by repeat (first | exact Below.refl _ _ | refine Below.setCell ?_ (by simp) _ | refine Below.alloc ?_ (by simp) _)⟩
def pickF (c : Int) (n : Nat) : Nat := if c < 0 then ((-(c + 1)) % (n : Int)).toNat else (c % (n : Int)).toNat
theorem pick_lt (c : Int) (n : Nat) (hn : 0 < n) : pickF c n < n := by
  unfold pickF
  split
  · have := Int.emod_lt_of_pos (-(c + 1)) (show (0 : Int) < n by omega)
    have := Int.emod_nonneg (-(c + 1)) (show (n : Int) ≠ 0 by omega)
    omega
  · have := Int.emod_lt_of_pos c (show (0 : Int) < n by omega)
    have := Int.emod_nonneg c (show (n : Int) ≠ 0 by omega)
    omega
theorem pick_any (c : Int) (n : Nat) (w : World) (h0 : -9223372036854775808 ≤ c) (h1 : c ≤ 9223372036854775807) (hn : 0 < n) (hm : n ≤ 1000) : Calls Try.prog 18 #[.int .i64 c, .int .i64 (n : Int)] w fun e w' => e = .returned (.int .i64 (pickF c n : Int)) ∧ w = w' := by
  have hz : (n : Int) ≠ 0 := by omega
  have hz0 : (0 : Int) < (n : Int) := by omega
  by_cases hc : c < 0
  · have hp : -(c + 1).tmod (n : Int) = (pickF c n : Int) := by
      unfold pickF
      rw [if_pos hc, ← Int.neg_tmod, Int.tmod_eq_emod_of_nonneg (by omega)]
      have := Int.emod_nonneg (-(c + 1)) hz
      omega
    generalize pickF c n = r at *
    go_enter Try.func18, Try.ntmps18
    go_wp2
    go_ret
    exact ⟨by first | rfl | rw [hp], rfl⟩
  · have hp : c % (n : Int) = (pickF c n : Int) := by
      unfold pickF
      rw [if_neg hc]
      have := Int.emod_nonneg c hz
      omega
    have HP := Lib.hid hp
    clear hp
    go_enter Try.func18, Try.ntmps18
    go_wp2
    go_ret
    exact ⟨by rw [← HP.out]; rfl, rfl⟩
end Go.Proofs.Ytpljopocnlllcaa
