/- Contracts of the small functions: ready, Units, Fuse, Clone, Clip, few, pick. -/
import Derived.Test.YtpcmfbdlfjlobaaTP
import Derived.Test.YtpcmfbdlfjlobaaSL
namespace Go.Proofs.Ytpcmfbdlfjlobaa
open Go.RowKit
set_option linter.unusedVariables false
attribute [local go_sem ↓] Go.wp_at_zero Go.wp_at_succ
theorem byteE : Elem Try.prog 28 5 (.int .u8 0) 1 1 := Elem.mk_ Try.underlying28 (by kernel_rfl) rfl (by decide)
theorem unE : Elem Try.prog 53 61 (.agg #[.int .i64 0, .int .i64 0, .int .u8 0]) 3 24 := Elem.mk_ Try.underlying53 (by kernel_rfl) rfl (by decide)
theorem runE : Elem Try.prog 57 67 (.agg #[.int .i64 0, .int .i64 0, .int .u8 0]) 3 24 := Elem.mk_ Try.underlying57 (by kernel_rfl) rfl (by decide)
theorem ready_any {w : World} {p : Nat} {s : TSt} {F : Nat → Prop} (side : Int) (h : Tp w p s F) : Calls Try.prog 32 #[.pointer (some ⟨p, 0, none⟩), .int .i64 side] w fun e w' => e = .returned (.int .i64 (rdyN s side)) ∧ w = w' := by
  obtain ⟨s0, s1, n0, n1, uv, L, h, hL⟩ := h
  have h5 : w.cell? ⟨p, 5, none⟩ = some (.bool s.burns) := h.ptr.cell 5
  have h6 : w.cell? ⟨p, 6, none⟩ = some (.int .i64 L) := h.ptr.cell 6
  clear h
  by_cases hs0 : side < 0
  · have HR : Hid (rdyN s side = 1) := if_pos (.inl hs0)
    clear hL
    go_enter Try.func32, Try.ntmps32
    go_wp2
    go_ret
    exact ⟨by rw [HR.out] <;> rfl, rfl⟩
  · by_cases hs1 : 1 < side
    · have HR : Hid (rdyN s side = 1) := if_pos (.inr hs1)
      have hs2 : 2 ≤ side := by omega
      have hs3 : decide (side < 0) = false := by simpa using hs0
      clear hL
      go_enter Try.func32, Try.ntmps32
      go_wp2
      go_ret
      exact ⟨by rw [HR.out] <;> rfl, rfl⟩
    · have hs2 : ¬ 2 ≤ side := by omega
      have HR : Hid (rdyN s side = if s.burns = true ∧ s.left = 0 then 40 else 0) := if_neg (by omega)
      generalize rdyN s side = r at *
      cases hb : s.burns
      · rw [hb] at HR h5
        have HR2 : Hid (r = 0) := by unfold Hid; simpa using HR.out
        clear hL HR hs1 hb
        go_enter Try.func32, Try.ntmps32
        go_wp2
        go_ret
        exact ⟨by rw [HR2.out] <;> rfl, rfl⟩
      · rw [hb] at HR h5
        have hL2 := hL hb
        rw [← hL2] at HR
        clear hL hb hL2
        by_cases h0 : L = 0
        · subst h0
          have HR2 : Hid (r = 40) := by unfold Hid; simpa using HR.out
          clear HR hs1
          go_enter Try.func32, Try.ntmps32
          go_wp2
          go_ret
          exact ⟨by rw [HR2.out] <;> rfl, rfl⟩
        · have HR2 : Hid (r = 0) := by unfold Hid; simpa [h0] using HR.out
          clear HR hs1
          go_enter Try.func32, Try.ntmps32
          go_wp2
          go_ret
          exact ⟨by rw [HR2.out] <;> rfl, rfl⟩
theorem units_any {w : World} {p : Nat} {s : TSt} {F : Nat → Prop} (h : Tp w p s F) : Calls Try.prog 17 #[.pointer (some ⟨p, 0, none⟩)] w fun e w' => e = .returned (.int .i64 (s.us.length : Int)) ∧ w = w' := by
  obtain ⟨s0, s1, n0, n1, uv, L, h, hL⟩ := h
  obtain ⟨A, cap, hkv, _, _⟩ := h.us.slice
  have h0 : w.cell? ⟨p, 4, none⟩ = some uv := h.ptr.cell 4
  rw [hkv] at h0
  clear h hkv hL
  generalize s.us.length = n at *
  go_enter Try.func17, Try.ntmps17
  go_wp2
  go_ret
  exact ⟨rfl, rfl⟩
theorem few_any (A : Option Addr) (c : Nat) (bs : List UInt8) (w : World) (h : Rd w A (bvals bs)) (hl : bs.length ≤ c) (hm : c ≤ maxLen) : Calls Try.prog 20 #[.slice A bs.length c] w fun e w' => e = .returned (.slice A (bs.take 60).length c) ∧ w = w' := by
  have HL : Hid ((bs.take 60).length = min 60 bs.length) := List.length_take
  unfold maxLen at hm
  generalize bs.length = n at *
  by_cases h1 : 60 < n
  · have f1 : (60 : Int) ≤ (c : Int) := by omega
    have HL2 : Hid ((bs.take 60).length = 60) := by have := HL.out; unfold Hid; omega
    clear HL
    go_enter Try.func20, Try.ntmps20
    go_wp2
    go_ret
    exact ⟨by rw [HL2.out] <;> rfl, rfl⟩
  · have HL2 : Hid ((bs.take 60).length = n) := by have := HL.out; unfold Hid; omega
    clear HL
    go_enter Try.func20, Try.ntmps20
    go_wp2
    go_ret
    exact ⟨by rw [HL2.out] <;> rfl, rfl⟩
def pickF (c : Int) (n : Nat) : Nat := if c < 0 then ((-(c + 1)) % (n : Int)).toNat else (c % (n : Int)).toNat
theorem pick_lt (c : Int) (n : Nat) (hn : 0 < n) : pickF c n < n := by
  unfold pickF
  split
  · have := Int.emod_lt_of_pos (-(c + 1)) (show (0 : Int) < n by omega)
    have := Int.emod_nonneg (-(c + 1)) (show (n : Int) ≠ 0 by omega)
    omega
  · have := Int.emod_lt_of_pos c (show (0 : Int) < n by omega)
    have := Int.emod_nonneg c (show (n : Int) ≠ 0 by omega)
    omega
theorem pick_any (c : Int) (n : Nat) (w : World) (h0 : -9223372036854775808 ≤ c) (h1 : c ≤ 9223372036854775807) (hn : 0 < n) (hm : n ≤ 70000) : Calls Try.prog 14 #[.int .i64 c, .int .i64 (n : Int)] w fun e w' => e = .returned (.int .i64 (pickF c n : Int)) ∧ w = w' := by
  have hz : (n : Int) ≠ 0 := by omega
  have hz0 : (0 : Int) < (n : Int) := by omega
  by_cases hc : c < 0
  · have hp : -(c + 1).tmod (n : Int) = (pickF c n : Int) := by
      unfold pickF
      rw [if_pos hc, ← Int.neg_tmod, Int.tmod_eq_emod_of_nonneg (by omega)]
      have := Int.emod_nonneg (-(c + 1)) hz
      omega
    generalize pickF c n = r at *
    go_enter Try.func14, Try.ntmps14
    go_wp2
    go_ret
    exact ⟨by first | rfl | rw [hp], rfl⟩
  · have hp : c % (n : Int) = (pickF c n : Int) := by
      unfold pickF
      rw [if_neg hc]
      have := Int.emod_nonneg c hz
      omega
    have HP := Lib.hid hp
    clear hp
    go_enter Try.func14, Try.ntmps14
    go_wp2
    go_ret
    exact ⟨by rw [← HP.out]; rfl, rfl⟩
/-- Clip: just so long as it is. -/
theorem clip_any (A : Option Addr) (n c : Nat) (w : World) (h : n ≤ c) (hm : c ≤ maxLen) : Calls Try.prog 40 #[.slice A n c] w fun e w' => e = .returned (.slice A n n) ∧ w = w' := by
  have f1 : (n : Int) ≤ (c : Int) := by omega
  unfold maxLen at hm
  go_enter Try.func40, Try.ntmps40
  go_wp2
  go_ret
  exact ⟨rfl, rfl⟩
def Cloned (bs : List UInt8) (w : World) (e : Ending) (w' : World) : Prop := ∃ A c, e = .returned (.slice A bs.length c) ∧ GOwn w' 5 1 (.slice A bs.length c) bs.length (bvals bs) ∧ (∀ a, A = some a → w.heap.size ≤ a.block ∧ a.block < w'.heap.size) ∧ Below w.heap.size w w'
set_option maxRecDepth 100000 in
theorem clone_any (A : Option Addr) (c : Nat) (bs : List UInt8) (w : World) (hr : Rd w A (bvals bs)) (hl : bs.length ≤ 1000000) : Calls Try.prog 34 #[.slice A bs.length c] w (Cloned bs w) := by
  cases A with
  | none =>
    have hb : bs = [] := by
      rcases hr with h | ⟨b, off, e, _⟩
      · simpa [bvals] using h
      · cases e
    subst hb
    have hq := fun wx => Lib.run_eql_slice_nil (P := Try.prog) wx 28 5 none 0 c 0 0 Try.underlying28
    go_enter Try.func34, Try.ntmps34
    go_wp2
    go_ret
    exact ⟨none, 0, rfl, GOwn.nil _ _ _, (fun a h => by cases h), Below.refl _ _⟩
  | some a =>
    have HR := Lib.hid hr
    clear hr
    have hq := fun wx => Lib.run_eql_slice_nil (P := Try.prog) wx 28 5 (some a) bs.length c 0 0 Try.underlying28
    go_enter Try.func34, Try.ntmps34
    go_wp2_with (at_builtin; obtain ⟨v5, w5, hrun5, own5, grow5, at5⟩ := g_app byteE 28 (GOwn.of_blk (n := 0) (Blk.new w 5 []) rfl (by simp)) bs.length c (HR.out.alloc _) (by rw [bvals_length, Nat.mul_one]) (bvals_one bs) (by omega) (by unfold maxLen; omega); obtain ⟨A5, c5, hv5, hc5, hm5⟩ := own5.slice; subst hv5; refine wpl_append rfl (.tmp 5) (.tmp 6) 28 28 rfl _ _ rfl rfl hrun5 ?_)
    simp only [Nat.zero_add, List.nil_append] at own5 hc5
    have hB : Below w.heap.size w w5 := ((Below.refl _ _).alloc (Nat.le_refl _) _).grown grow5 (by simp) (fun k hk => by simp [Value.ownBlock] at hk; omega)
    have hge : ∀ x, A5 = some x → w.heap.size ≤ x.block ∧ x.block < w5.heap.size := fun x hx => by
      subst hx
      refine ⟨?_, own5.lt rfl⟩
      rcases at5 x.block rfl with h | h
      · simp [Value.ownBlock] at h; omega
      · simp at h; omega
    have HH : Hid (Cloned bs w (.returned (.slice A5 bs.length c5)) w5) := ⟨A5, c5, rfl, own5, hge, hB⟩
    clear hB hge own5 grow5 at5 hrun5 HR
    go_wp2
    go_ret
    exact HH.out
/-- What Fuse tells. -/
def fuseN (n : Int) : Int := if n < 0 ∨ 1099511627776 < n then 1 else 0
theorem fuse_bad {w : World} {p : Nat} {s : TSt} {F : Nat → Prop} (n : Int) (h : Tp w p s F) (hn : n < 0 ∨ 1099511627776 < n) : Calls Try.prog 23 #[.pointer (some ⟨p, 0, none⟩), .int .i64 n] w fun e w' => e = .returned (.int .i64 1) ∧ w = w' := by
  clear h
  rcases hn with hn | hn
  · go_enter Try.func23, Try.ntmps23
    go_wp2
    go_ret
    exact ⟨rfl, rfl⟩
  · have h0 : decide (n < 0) = false := by simp; omega
    go_enter Try.func23, Try.ntmps23
    go_wp2
    go_ret
    exact ⟨rfl, rfl⟩
theorem fuse_any {w : World} {p : Nat} {s : TSt} {F : Nat → Prop} (n : Int) (h : Tp w p s F) (hn0 : 0 ≤ n) (hn1 : n ≤ 1099511627776) : Calls Try.prog 23 #[.pointer (some ⟨p, 0, none⟩), .int .i64 n] w (Did (fun w' => Tp w' p (s.fused n)) F (.returned (.int .i64 0)) w) := by
  obtain ⟨s0, s1, n0, n1, uv, L, h, hL⟩ := h
  have H := Lib.hid h
  have h5 : w.cell? ⟨p, 5, none⟩ = some (.bool s.burns) := h.ptr.cell 5
  have h6 : w.cell? ⟨p, 6, none⟩ = some (.int .i64 L) := h.ptr.cell 6
  have f5 := h.ptr.frozen 5
  have f6 := h.ptr.frozen 6
  have d0 : decide (n < 0) = false := by simp; omega
  have d1 : decide (1099511627776 < n) = false := by simp; omega
  have HF : Hid (∀ x, (s.burns = false → x = n) → (s.burns = true → x = min n s.left) → Did (fun w' => Tp w' p (s.fused n)) F (.returned (.int .i64 0)) w (.returned (.int .i64 0)) ((w.setCell ⟨p, 5, none⟩ (.bool true)).setCell ⟨p, 6, none⟩ (.int .i64 x))) := fun x hx0 hx1 => by
    have hp := (h.ptr.set_ 5 (.bool true)).set_ 6 (.int .i64 x)
    have hk : Kept (fun b => b = p) w ((w.setCell ⟨p, 5, none⟩ (.bool true)).setCell ⟨p, 6, none⟩ (.int .i64 x)) := ((Kept.refl (fun b => b = p) w).set (p := ⟨p, 5, none⟩) (.inl rfl) _).set (p := ⟨p, 6, none⟩) (.inl rfl) _
    refine ⟨rfl, F, ⟨s0, s1, n0, n1, uv, x, h.fuse hk hp, fun _ => ?_⟩, hk.mono fun b hb => hb ▸ h.fpp, Grew.refl _ _⟩
    show x = if s.burns = true then min n s.left else n
    cases hb : s.burns
    · rw [hx0 hb]; rfl
    · rw [hx1 hb]; rfl
  clear h
  cases hb : s.burns
  · rw [hb] at h5
    have HX := Lib.hid (HF.out n (fun _ => rfl) (fun h => by rw [hb] at h; cases h))
    clear HF hL hb
    go_enter Try.func23, Try.ntmps23
    go_wp2
    go_ret
    exact HX.out
  · rw [hb] at h5
    have HX : Hid (∀ x, x = min n L → Did (fun w' => Tp w' p (s.fused n)) F (.returned (.int .i64 0)) w (.returned (.int .i64 0)) ((w.setCell ⟨p, 5, none⟩ (.bool true)).setCell ⟨p, 6, none⟩ (.int .i64 x))) := fun x hx => HF.out x (fun h => by rw [hb] at h; cases h) (fun _ => by rw [hx, hL hb])
    clear HF hL hb
    go_enter Try.func23, Try.ntmps23
    go_wp2
    all_goals go_ret
    all_goals exact HX.out _ (by omega)
end Go.Proofs.Ytpcmfbdlfjlobaa
