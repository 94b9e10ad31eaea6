/- Both tapes side by side; what each deed does, of either. -/
import Derived.Test.YtpcmfbdlfjlobaaT9
import Derived.Test.YtpcmfbdlfjlobaaU4
import Derived.Test.YtpcmfbdlfjlobaaU5
import Derived.Test.YtpcmfbdlfjlobaaSM
namespace Go.Proofs.Ytpcmfbdlfjlobaa
open Go.RowKit
set_option linter.unusedVariables false
attribute [local go_sem ↓] Go.wp_at_zero Go.wp_at_succ
theorem Did.same {R : World → (Nat → Prop) → Prop} {F : Nat → Prop} {r : Ending} {w w' : World} {e : Ending} (he : e = r) (h : R w' F) (hb : Below w.heap.size w w') : Did R F r w e w' := ⟨he, F, h, Kept.of_below F hb, Grew.refl _ _⟩
def sideOf (n : Int) : Bool := decide (n = 1)
theorem sdI_sideOf {s : TSt} {side : Int} (h : rdyN s side = 0) : side = sdI (sideOf side) := by
  obtain ⟨o, rfl⟩ := rdy_side h
  cases o <;> rfl
def opW (s : TSt) (side : Int) (bs : List UInt8) : Int × TSt := if rdyN s side ≠ 0 then (rdyN s side, s) else if 65536 < (s.now.get (sideOf side)).length + bs.length then (42, s) else (0, s.did (wUs (sideOf side) bs))
def opT (s : TSt) (side n : Int) : Int × TSt := if rdyN s side ≠ 0 then (rdyN s side, s) else if n < 0 ∨ ((s.now.get (sideOf side)).length : Int) < n then (1, s) else (0, s.did [⟨sideOf side, some n.toNat, 0⟩])
def opS (s : TSt) : Int × TSt := if rdyN s 0 ≠ 0 then (rdyN s 0, s) else (0, s.synced)
def opF (s : TSt) (n : Int) : Int × TSt := if n < 0 ∨ 1099511627776 < n then (1, s) else (0, s.fused n)
def opC (s : TSt) (n : Int) : TSt := s.crashed (pickF n (s.us.length + 1))
section
variable {w : World} {p : Nat} {s : TSt} {F : Nat → Prop}
theorem opW_good (h : s.good) (side : Int) (bs : List UInt8) : (opW s side bs).2.good ∧ (opW s side bs).2.us.length ≤ s.us.length + bs.length := by
  unfold opW
  split
  · exact ⟨h, by simp⟩
  · rename_i hr
    split
    · exact ⟨h, by simp⟩
    · rename_i hm
      exact ⟨g_did h _ _ (side := side) (by simpa using hr) (by omega), by show (s.us ++ wUs _ bs).length ≤ _; rw [List.length_append, wUs_length]; exact Nat.le_refl _⟩
theorem opT_good (h : s.good) (side n : Int) : (opT s side n).2.good ∧ (opT s side n).2.us.length ≤ s.us.length + 1 := by
  unfold opT
  split
  · exact ⟨h, by simp⟩
  · rename_i hr
    split
    · exact ⟨h, by simp⟩
    · rename_i hm
      exact ⟨h.did (side := side) (by simpa using hr) (okUs_cut _ _ _ (okUs_run h.ok) (by have : (s.now.get (sideOf side)).length = (s.now.get (sideOf side)).length := rfl; show n.toNat ≤ (s.now.get (sideOf side)).length; omega)), by show (s.us ++ [_]).length ≤ _; simp⟩
theorem opS_good (h : s.good) : (opS s).2.good ∧ (opS s).2.us.length ≤ s.us.length := by
  unfold opS
  split
  · exact ⟨h, Nat.le_refl _⟩
  · rename_i hr
    exact ⟨h.synced (side := 0) (by simpa using hr), Nat.zero_le _⟩
theorem opF_good (h : s.good) (n : Int) : (opF s n).2.good ∧ (opF s n).2.us.length ≤ s.us.length := by
  unfold opF
  split
  · exact ⟨h, Nat.le_refl _⟩
  · exact ⟨h.fused (by omega) (by omega), Nat.le_refl _⟩
theorem opC_good (h : s.good) (n : Int) : (opC s n).good ∧ (opC s n).us.length ≤ s.us.length := ⟨h.crashed _, Nat.zero_le _⟩
theorem write_all (side : Int) (A : Option Addr) (c : Nat) (bs : List UInt8) (h : Tp w p s F) (hg : s.good) (hrd : Rd w A (bvals bs)) (hb : bs.length ≤ 1000000) (hl : s.us.length ≤ 1000000) :
    Calls Try.prog 15 #[.pointer (some ⟨p, 0, none⟩), .int .i64 side, .slice A bs.length c] w (Did (fun w' => Tp w' p (opW s side bs).2) F (.returned (.int .i64 (opW s side bs).1)) w) := by
  unfold opW
  split
  · rename_i hr
    exact (write_rdy side _ h hr).mono fun e w' ⟨he, hw⟩ => by subst hw; exact Did.same he h (Below.refl _ _)
  · rename_i hr
    have hr' : rdyN s side = 0 := by simpa using hr
    have hs := sdI_sideOf hr'
    generalize sideOf side = o at *
    subst hs
    split
    · rename_i hm
      exact (write_room o A bs.length c h hg hr' hm hb).mono fun e w' ⟨he, hw⟩ => by subst hw; exact Did.same he h (Below.refl _ _)
    · rename_i hm
      exact write_any o A c bs h hg hr' hrd (by omega) hl
theorem rwrite_all (side : Int) (A : Option Addr) (c : Nat) (bs : List UInt8) (h : Rt w p s F) (hg : s.good) (hrd : Rd w A (bvals bs)) (hA : ∀ a, A = some a → bs ≠ [] → ¬ F a.block) (hb : bs.length ≤ 1000000) (hl : s.us.length ≤ 1000000) :
    Calls Try.prog 26 #[.pointer (some ⟨p, 0, none⟩), .int .i64 side, .slice A bs.length c] w (Did (fun w' => Rt w' p (opW s side bs).2) F (.returned (.int .i64 (opW s side bs).1)) w) := by
  unfold opW
  split
  · rename_i hr
    exact (rwrite_rdy side _ h hr).mono fun e w' ⟨he, hw⟩ => by subst hw; exact Did.same he h (Below.refl _ _)
  · rename_i hr
    have hr' : rdyN s side = 0 := by simpa using hr
    have hs := sdI_sideOf hr'
    generalize sideOf side = o at *
    subst hs
    split
    · rename_i hm
      exact (rwrite_room o A bs.length c h hg hr' hm hb hl).mono fun e w' ⟨he, hw⟩ => Did.same he (h.below hw) hw
    · rename_i hm
      exact rwrite_any o A c bs h hg hr' hrd hA (by omega) hl
theorem trim_all (side n : Int) (h : Tp w p s F) (hg : s.good) (hl : s.us.length ≤ 1000000) :
    Calls Try.prog 24 #[.pointer (some ⟨p, 0, none⟩), .int .i64 side, .int .i64 n] w (Did (fun w' => Tp w' p (opT s side n).2) F (.returned (.int .i64 (opT s side n).1)) w) := by
  unfold opT
  split
  · rename_i hr
    exact (trim_rdy side _ h hr).mono fun e w' ⟨he, hw⟩ => by subst hw; exact Did.same he h (Below.refl _ _)
  · rename_i hr
    have hr' : rdyN s side = 0 := by simpa using hr
    have hs := sdI_sideOf hr'
    generalize sideOf side = o at *
    subst hs
    split
    · rename_i hm
      exact (trim_bad o n h hg hr' hm).mono fun e w' ⟨he, hw⟩ => by subst hw; exact Did.same he h (Below.refl _ _)
    · rename_i hm
      have := trim_any o n.toNat h hg hr' (by omega) hl
      rw [show ((n.toNat : Nat) : Int) = n by omega] at this
      exact this
theorem rtrim_all (side n : Int) (h : Rt w p s F) (hg : s.good) (hl : s.us.length ≤ 1000000) :
    Calls Try.prog 27 #[.pointer (some ⟨p, 0, none⟩), .int .i64 side, .int .i64 n] w (Did (fun w' => Rt w' p (opT s side n).2) F (.returned (.int .i64 (opT s side n).1)) w) := by
  unfold opT
  split
  · rename_i hr
    exact (rtrim_rdy side _ h hr).mono fun e w' ⟨he, hw⟩ => by subst hw; exact Did.same he h (Below.refl _ _)
  · rename_i hr
    have hr' : rdyN s side = 0 := by simpa using hr
    have hs := sdI_sideOf hr'
    generalize sideOf side = o at *
    subst hs
    split
    · rename_i hm
      exact (rtrim_bad o n h hg hr' hm hl).mono fun e w' ⟨he, hw⟩ => Did.same he (h.below hw) hw
    · rename_i hm
      have := rtrim_any o n.toNat h hg hr' (by omega) hl
      rw [show ((n.toNat : Nat) : Int) = n by omega] at this
      exact this
theorem clear_all (side : Int) (h : Tp w p s F) (hg : s.good) (hl : s.us.length ≤ 1000000) :
    Calls Try.prog 25 #[.pointer (some ⟨p, 0, none⟩), .int .i64 side] w (Did (fun w' => Tp w' p (opT s side 0).2) F (.returned (.int .i64 (opT s side 0).1)) w) := by
  unfold opT
  split
  · rename_i hr
    exact (clear_rdy side h hr).mono fun e w' ⟨he, hw⟩ => by subst hw; exact Did.same he h (Below.refl _ _)
  · rename_i hr
    have hr' : rdyN s side = 0 := by simpa using hr
    have hs := sdI_sideOf hr'
    generalize sideOf side = o at *
    subst hs
    rw [if_neg (by omega)]
    exact clear_any o h hg hr' hl
theorem sync_all (h : Tp w p s F) (hg : s.good) :
    Calls Try.prog 18 #[.pointer (some ⟨p, 0, none⟩)] w (Did (fun w' => Tp w' p (opS s).2) F (.returned (.int .i64 (opS s).1)) w) := by
  unfold opS
  split
  · rename_i hr
    exact (sync_rdy h hr).mono fun e w' ⟨he, hw⟩ => by subst hw; exact Did.same he h (Below.refl _ _)
  · rename_i hr
    exact sync_any h hg (by simpa using hr)
theorem rsync_all (h : Rt w p s F) (hg : s.good) (hl : s.us.length ≤ 1000000) :
    Calls Try.prog 28 #[.pointer (some ⟨p, 0, none⟩)] w (Did (fun w' => Rt w' p (opS s).2) F (.returned (.int .i64 (opS s).1)) w) := by
  unfold opS
  split
  · rename_i hr
    exact (rsync_rdy h hr).mono fun e w' ⟨he, hw⟩ => by subst hw; exact Did.same he h (Below.refl _ _)
  · rename_i hr
    exact rsync_any h hg (by simpa using hr) hl
theorem fuse_all (n : Int) (h : Tp w p s F) :
    Calls Try.prog 23 #[.pointer (some ⟨p, 0, none⟩), .int .i64 n] w (Did (fun w' => Tp w' p (opF s n).2) F (.returned (.int .i64 (opF s n).1)) w) := by
  unfold opF
  split
  · rename_i hr
    exact (fuse_bad n h hr).mono fun e w' ⟨he, hw⟩ => by subst hw; exact Did.same he h (Below.refl _ _)
  · exact fuse_any n h (by omega) (by omega)
theorem rfuse_all (n : Int) (h : Rt w p s F) :
    Calls Try.prog 29 #[.pointer (some ⟨p, 0, none⟩), .int .i64 n] w (Did (fun w' => Rt w' p (opF s n).2) F (.returned (.int .i64 (opF s n).1)) w) := by
  unfold opF
  split
  · rename_i hr
    exact (rfuse_bad n h hr).mono fun e w' ⟨he, hw⟩ => by subst hw; exact Did.same he h (Below.refl _ _)
  · exact rfuse_any n h (by omega) (by omega)
/-- What Read tells, of either. -/
def rdBs (s : TSt) (side : Int) : List UInt8 := if rdyN s side ≠ 0 then [] else s.now.get (sideOf side)
theorem rdBs_len (h : s.good) (side : Int) : (rdBs s side).length ≤ 65536 := by
  unfold rdBs
  split
  · simp
  · exact h.now _
theorem told_nil (w : World) (r : Int) : Told [] r w (.returned (.tuple #[.slice none 0 0, .int .i64 r])) w := ⟨none, 0, rfl, GOwn.nil _ _ _, (fun a ha => by cases ha), Below.refl _ _⟩
theorem read_all (side : Int) (h : Tp w p s F) (hg : s.good) :
    Calls Try.prog 16 #[.pointer (some ⟨p, 0, none⟩), .int .i64 side] w (Told (rdBs s side) (rdyN s side) w) := by
  unfold rdBs
  split
  · rename_i hr
    exact (read_rdy side h hr).mono fun e w' ⟨he, hw⟩ => by subst hw; subst he; exact told_nil _ _
  · rename_i hr
    have hr' : rdyN s side = 0 := by simpa using hr
    have hs := sdI_sideOf hr'
    generalize sideOf side = o at *
    subst hs
    rw [hr']
    exact read_any o h hg hr'
theorem rread_all (side : Int) (h : Rt w p s F) (hg : s.good) (hl : s.us.length ≤ 1000000) :
    Calls Try.prog 31 #[.pointer (some ⟨p, 0, none⟩), .int .i64 side] w (Told (rdBs s side) (rdyN s side) w) := by
  unfold rdBs
  split
  · rename_i hr
    exact (rread_rdy side h hr).mono fun e w' ⟨he, hw⟩ => by subst hw; subst he; exact told_nil _ _
  · rename_i hr
    have hr' : rdyN s side = 0 := by simpa using hr
    have hs := sdI_sideOf hr'
    generalize sideOf side = o at *
    subst hs
    rw [hr']
    exact rread_any o h hg hr' hl
end
structure Two (B : Nat) (w : World) (p q : Nat) (s t : TSt) (F G : Nat → Prop) : Prop where
  rp : Tp w p s F
  rq : Rt w q t G
  dis : ∀ k, F k → ¬ G k
  loF : ∀ k, F k → B ≤ k
  loG : ∀ k, G k → B ≤ k
  lo : B ≤ w.heap.size
theorem apart_grew {w : World} {F F' G : Nat → Prop} (hd : ∀ k, F k → ¬ G k) (hg : Grew F F' w) (hlt : ∀ k, G k → k < w.heap.size) : ∀ k, F' k → ¬ G k := fun k hk hG => by
  rcases hg k hk with h | h
  · exact hd k h hG
  · have := hlt k hG; omega
section
variable {B : Nat} {w w' : World} {p q : Nat} {s s' t t' : TSt} {F F' G G' : Nat → Prop}
theorem Two.left (h : Two B w p q s t F G) (hr : Tp w' p s' F') (hk : Kept F w w') (hg : Grew F F' w) : Two B w' p q s' t F' G :=
  { rp := hr
    rq := h.rq.kept hk fun k hG hF => h.dis k hF hG
    dis := apart_grew h.dis hg h.rq.lt
    loF := fun k hk' => by
      rcases hg k hk' with h1 | h1
      · exact h.loF k h1
      · exact Nat.le_trans h.lo h1
    loG := h.loG
    lo := Nat.le_trans h.lo hk.size }
theorem Two.right (h : Two B w p q s t F G) (hr : Rt w' q t' G') (hk : Kept G w w') (hg : Grew G G' w) : Two B w' p q s t' F G' :=
  { rp := h.rp.kept hk h.dis
    rq := hr
    dis := fun k hF hG => apart_grew (fun k hG hF => h.dis k hF hG) hg h.rp.lt k hG hF
    loF := h.loF
    loG := fun k hk' => by
      rcases hg k hk' with h1 | h1
      · exact h.loG k h1
      · exact Nat.le_trans h.lo h1
    lo := Nat.le_trans h.lo hk.size }
theorem Two.below (h : Two B w p q s t F G) (hb : Below w.heap.size w w') : Two B w' p q s t F G :=
  { rp := h.rp.below hb
    rq := h.rq.below hb
    dis := h.dis, loF := h.loF, loG := h.loG, lo := Nat.le_trans h.lo hb.size }
theorem Two.drewN (h : Two B w p q s t F G) (n : Nat) : Two B (w.drewN n) p q s t F G := h.below ⟨rfl, rfl, rfl, Nat.le_refl _, fun _ _ => rfl⟩
theorem Two.set (h : Two B w p q s t F G) (a : Addr) (hF : ¬ F a.block) (hG : ¬ G a.block) (u : Value) : Two B (w.setCell a u) p q s t F G := by
  have hk : Kept (fun k => k = a.block) w (w.setCell a u) := (Kept.refl (fun k => k = a.block) w).set (p := a) (.inl rfl) u
  exact
  { rp := h.rp.kept hk (fun k hk (e : k = a.block) => hF (e ▸ hk))
    rq := h.rq.kept hk (fun k hk (e : k = a.block) => hG (e ▸ hk))
    dis := h.dis, loF := h.loF, loG := h.loG, lo := by simpa using h.lo }
end
theorem two_new {w w1 w2 : World} {p q : Nat} {F G : Nat → Prop} (hr : Tp w1 p t0 F) (hl : ∀ k, F k → w.heap.size ≤ k) (hb : Below w.heap.size w w1) (hr2 : Rt w2 q t0 G) (hl2 : ∀ k, G k → w1.heap.size ≤ k) (hb2 : Below w1.heap.size w1 w2) : Two w.heap.size w2 p q t0 t0 F G :=
  { rp := hr.below hb2
    rq := hr2
    dis := fun k hF hG => by have h1 := hr.lt _ hF; have h2 := hl2 _ hG; omega
    loF := hl
    loG := fun k hG => Nat.le_trans hb.size (hl2 k hG)
    lo := Nat.le_trans hb.size hb2.size }
end Go.Proofs.Ytpcmfbdlfjlobaa
