/- How the reference's tape lies in memory; ready, burn, Fuse, New of the reference. -/
import Derived.Test.YtpcmfbdlfjlobaaT6
namespace Go.Proofs.Ytpcmfbdlfjlobaa
open Go.RowKit
set_option linter.unusedVariables false
attribute [local go_sem ↓] Go.wp_at_zero Go.wp_at_succ
structure RtW (w : World) (q : Nat) (sf : Sd) (us : List Un) (bu : Bool) (L : Int) (F : Nat → Prop) (g : Nat) (r0 r1 uv : Value) : Prop where
  ptr : Blk w q 59 [.slice (some ⟨g, 0, none⟩) 2 2, uv, .bool bu, .int .i64 L]
  sfb : Blk w g 28 [r0, r1]
  safe : Pr w r0 r1 sf
  us : GOwn w 67 3 uv us.length (ucells us)
  dg : g ≠ q ∧ uv.ownBlock ≠ some g ∧ ¬ blk r0 r1 g
  dq : uv.ownBlock ≠ some q ∧ ¬ blk r0 r1 q
  du : ∀ b, uv.ownBlock = some b → ¬ blk r0 r1 b
  fpq : F q
  fpg : F g
  fps : ∀ b, blk r0 r1 b → F b
  fpu : ∀ b, uv.ownBlock = some b → F b
  lt : ∀ b, F b → b < w.heap.size
def Rt (w : World) (q : Nat) (s : TSt) (F : Nat → Prop) : Prop := ∃ g r0 r1 uv L, RtW w q s.safe s.us s.burns L F g r0 r1 uv ∧ (s.burns = true → L = s.left)
section
variable {w w' : World} {q g : Nat} {sf : Sd} {us : List Un} {bu : Bool} {L : Int} {F G : Nat → Prop} {r0 r1 uv : Value}
theorem RtW.kept (h : RtW w q sf us bu L F g r0 r1 uv) (hk : Kept G w w') (hd : ∀ b, F b → ¬ G b) : RtW w' q sf us bu L F g r0 r1 uv :=
  { ptr := (hk.block (h.lt q h.fpq) (hd q h.fpq)).trans h.ptr
    sfb := (hk.block (h.lt g h.fpg) (hd g h.fpg)).trans h.sfb
    safe := h.safe.kept hk fun b hb => hd b (h.fps b hb)
    us := h.us.keep fun b hb => hk.block (h.lt b (h.fpu b hb)) (hd b (h.fpu b hb))
    dg := h.dg, dq := h.dq, du := h.du, fpq := h.fpq, fpg := h.fpg, fps := h.fps, fpu := h.fpu
    lt := fun b hb => Nat.lt_of_lt_of_le (h.lt b hb) hk.size }
theorem RtW.below (h : RtW w q sf us bu L F g r0 r1 uv) (hb : Below w.heap.size w w') : RtW w' q sf us bu L F g r0 r1 uv := h.kept (Kept.of_below (fun _ => False) hb) (fun _ _ h => h)
theorem RtW.fuse (h : RtW w q sf us bu L F g r0 r1 uv) (hk : Kept (fun b => b = q) w w') {bu' : Bool} {L' : Int} (hp : Blk w' q 59 [.slice (some ⟨g, 0, none⟩) 2 2, uv, .bool bu', .int .i64 L']) : RtW w' q sf us bu' L' F g r0 r1 uv :=
  { ptr := hp
    sfb := (hk.block (h.lt g h.fpg) h.dg.1).trans h.sfb
    safe := h.safe.kept hk fun b hb e => h.dq.2 (e ▸ hb)
    us := h.us.keep fun b hb => hk.block (h.lt b (h.fpu b hb)) fun e => h.dq.1 (e ▸ hb)
    dg := h.dg, dq := h.dq, du := h.du, fpq := h.fpq, fpg := h.fpg, fps := h.fps, fpu := h.fpu
    lt := fun b hb => Nat.lt_of_lt_of_le (h.lt b hb) hk.size }
theorem RtW.units (h : RtW w q sf us bu L F g r0 r1 uv) (hk : Kept (fun b => b = q ∨ uv.ownBlock = some b) w w') {uv' : Value} {us' : List Un} (hp : Blk w' q 59 [.slice (some ⟨g, 0, none⟩) 2 2, uv', .bool bu, .int .i64 L]) (hn : GOwn w' 67 3 uv' us'.length (ucells us')) (hg : ∀ b, uv'.ownBlock = some b → uv.ownBlock = some b ∨ w.heap.size ≤ b) :
    RtW w' q sf us' bu L (fun b => F b ∨ uv'.ownBlock = some b) g r0 r1 uv' :=
  { ptr := hp
    sfb := (hk.block (h.lt g h.fpg) (fun e => e.elim h.dg.1 h.dg.2.1)).trans h.sfb
    safe := h.safe.kept hk fun b hb e => e.elim (fun e => h.dq.2 (e ▸ hb)) (fun e => h.du b e hb)
    us := hn
    dg := ⟨h.dg.1, fun hb => by
      rcases hg g hb with e | e
      · exact h.dg.2.1 e
      · have := h.lt g h.fpg; omega, h.dg.2.2⟩
    dq := ⟨fun hb => by
      rcases hg q hb with e | e
      · exact h.dq.1 e
      · have := h.lt q h.fpq; omega, h.dq.2⟩
    du := fun b hb hb' => by
      rcases hg b hb with e | e
      · exact h.du b e hb'
      · have := h.lt b (h.fps b hb'); omega
    fpq := .inl h.fpq, fpg := .inl h.fpg, fps := fun b hb => .inl (h.fps b hb), fpu := fun b hb => .inr hb
    lt := fun b hb => hb.elim (fun hb => Nat.lt_of_lt_of_le (h.lt b hb) hk.size) (fun hb => hn.lt hb) }
/-- The sides that last are others, and there are no units. -/
theorem RtW.fresh (h : RtW w q sf us bu L F g r0 r1 uv) (hz : w.heap.size ≤ w'.heap.size) {g' : Nat} {r0' r1' : Value} {sf' : Sd} {bu' : Bool} {L' : Int} (hp : Blk w' q 59 [.slice (some ⟨g', 0, none⟩) 2 2, .slice none 0 0, .bool bu', .int .i64 L']) (hb : Blk w' g' 28 [r0', r1']) (hs : Pr w' r0' r1' sf')
    (hg : ∀ b, blk r0' r1' b → w.heap.size ≤ b) (hgg : w.heap.size ≤ g') (hd : ¬ blk r0' r1' g') :
    RtW w' q sf' [] bu' L' (fun b => F b ∨ b = g' ∨ blk r0' r1' b) g' r0' r1' (.slice none 0 0) :=
  { ptr := hp
    sfb := hb
    safe := hs
    us := GOwn.nil _ _ _
    dg := ⟨fun e => by have := h.lt q h.fpq; omega, by simp [Value.ownBlock], hd⟩
    dq := ⟨by simp [Value.ownBlock], fun hb => by have := hg q hb; have := h.lt q h.fpq; omega⟩
    du := fun b hb => by simp [Value.ownBlock] at hb
    fpq := .inl h.fpq, fpg := .inr (.inl rfl), fps := fun b hb => .inr (.inr hb), fpu := fun b hb => by simp [Value.ownBlock] at hb
    lt := fun b hb' => by
      rcases hb' with hb' | hb' | hb'
      · exact Nat.lt_of_lt_of_le (h.lt b hb') hz
      · subst hb'; exact hb.lt
      · exact hs.lt b hb' }
theorem Rt.kept {s : TSt} (h : Rt w q s F) (hk : Kept G w w') (hd : ∀ b, F b → ¬ G b) : Rt w' q s F := by
  obtain ⟨g, r0, r1, uv, L, h, hL⟩ := h
  exact ⟨g, r0, r1, uv, L, h.kept hk hd, hL⟩
theorem Rt.below {s : TSt} (h : Rt w q s F) (hb : Below w.heap.size w w') : Rt w' q s F := h.kept (Kept.of_below (fun _ => False) hb) (fun _ _ h => h)
theorem Rt.lt {s : TSt} (h : Rt w q s F) : ∀ b, F b → b < w.heap.size := by
  obtain ⟨g, r0, r1, uv, L, h, hL⟩ := h
  exact h.lt
end
theorem rready_any {w : World} {p : Nat} {s : TSt} {F : Nat → Prop} (side : Int) (h : Rt w p s F) : Calls Try.prog 38 #[.pointer (some ⟨p, 0, none⟩), .int .i64 side] w fun e w' => e = .returned (.int .i64 (rdyN s side)) ∧ w = w' := by
  obtain ⟨g, r0, r1, uv, L, h, hL⟩ := h
  have h5 : w.cell? ⟨p, 2, none⟩ = some (.bool s.burns) := h.ptr.cell 2
  have h6 : w.cell? ⟨p, 3, none⟩ = some (.int .i64 L) := h.ptr.cell 3
  clear h
  by_cases hs0 : side < 0
  · have HR : Hid (rdyN s side = 1) := if_pos (.inl hs0)
    clear hL
    go_enter Try.func38, Try.ntmps38
    go_wp2
    go_ret
    exact ⟨by rw [HR.out] <;> rfl, rfl⟩
  · by_cases hs1 : 1 < side
    · have HR : Hid (rdyN s side = 1) := if_pos (.inr hs1)
      have hs3 : decide (side < 0) = false := by simpa using hs0
      clear hL
      go_enter Try.func38, Try.ntmps38
      go_wp2
      go_ret
      exact ⟨by rw [HR.out] <;> rfl, rfl⟩
    · have HR : Hid (rdyN s side = if s.burns = true ∧ s.left = 0 then 40 else 0) := if_neg (by omega)
      generalize rdyN s side = r at *
      cases hb : s.burns
      · rw [hb] at HR h5
        have HR2 : Hid (r = 0) := by unfold Hid; simpa using HR.out
        clear hL HR hb
        go_enter Try.func38, Try.ntmps38
        go_wp2
        go_ret
        exact ⟨by rw [HR2.out] <;> rfl, rfl⟩
      · rw [hb] at HR h5
        have hL2 := hL hb
        rw [← hL2] at HR
        clear hL hb hL2
        by_cases h0 : L = 0
        · subst h0
          have HR2 : Hid (r = 40) := by unfold Hid; simpa using HR.out
          clear HR
          go_enter Try.func38, Try.ntmps38
          go_wp2
          go_ret
          exact ⟨by rw [HR2.out] <;> rfl, rfl⟩
        · have HR2 : Hid (r = 0) := by unfold Hid; simpa [h0] using HR.out
          clear HR
          go_enter Try.func38, Try.ntmps38
          go_wp2
          go_ret
          exact ⟨by rw [HR2.out] <;> rfl, rfl⟩
/-- The fuse burns: only its cell is written. -/
def Burnt (w : World) (q : Nat) (s : TSt) (F : Nat → Prop) (e : Ending) (w' : World) : Prop := e = .returned (.tuple #[]) ∧ Kept (fun b => b = q) w w' ∧ ∃ g r0 r1 uv L, RtW w' q s.safe s.us s.burns L F g r0 r1 uv ∧ (s.burns = true → L = s.left - 1)
theorem rburn_any {w : World} {q : Nat} {s : TSt} {F : Nat → Prop} (h : Rt w q s F) (hg : s.good) : Calls Try.prog 39 #[.pointer (some ⟨q, 0, none⟩)] w (Burnt w q s F) := by
  obtain ⟨g, r0, r1, uv, L, h, hL⟩ := h
  have h2 : w.cell? ⟨q, 2, none⟩ = some (.bool s.burns) := h.ptr.cell 2
  have h3 : w.cell? ⟨q, 3, none⟩ = some (.int .i64 L) := h.ptr.cell 3
  have f3 := h.ptr.frozen 3
  cases hb : s.burns
  · rw [hb] at h2
    have HF : Hid (Burnt w q s F (.returned (.tuple #[])) w) := ⟨rfl, Kept.refl _ _, g, r0, r1, uv, L, h, fun e => by rw [hb] at e; cases e⟩
    clear h hL
    go_enter Try.func39, Try.ntmps39
    go_wp2
    go_end0
    exact HF.out
  · rw [hb] at h2
    have hLL := hL hb
    have h1 := hg.l0 hb
    have hw : IntKind.i64.wrap (L - 1) = L - 1 := IntWalk.i64_in _ (by omega)
    have hk : Kept (fun b => b = q) w (w.setCell ⟨q, 3, none⟩ (.int .i64 (L - 1))) := (Kept.refl (fun b => b = q) w).set (p := ⟨q, 3, none⟩) (.inl rfl) _
    have HF : Hid (Burnt w q s F (.returned (.tuple #[])) (w.setCell ⟨q, 3, none⟩ (.int .i64 (L - 1)))) := ⟨rfl, hk, g, r0, r1, uv, L - 1, h.fuse hk (h.ptr.set_ 3 _), fun e => by omega⟩
    clear h hL hLL h1 hk
    go_enter Try.func39, Try.ntmps39
    go_wp2
    go_end0
    exact HF.out
theorem rfuse_bad {w : World} {p : Nat} {s : TSt} {F : Nat → Prop} (n : Int) (h : Rt w p s F) (hn : n < 0 ∨ 1099511627776 < n) : Calls Try.prog 29 #[.pointer (some ⟨p, 0, none⟩), .int .i64 n] w fun e w' => e = .returned (.int .i64 1) ∧ w = w' := by
  clear h
  rcases hn with hn | hn
  · go_enter Try.func29, Try.ntmps29
    go_wp2
    go_ret
    exact ⟨rfl, rfl⟩
  · have h0 : decide (n < 0) = false := by simp; omega
    go_enter Try.func29, Try.ntmps29
    go_wp2
    go_ret
    exact ⟨rfl, rfl⟩
theorem rfuse_any {w : World} {p : Nat} {s : TSt} {F : Nat → Prop} (n : Int) (h : Rt w p s F) (hn0 : 0 ≤ n) (hn1 : n ≤ 1099511627776) : Calls Try.prog 29 #[.pointer (some ⟨p, 0, none⟩), .int .i64 n] w (Did (fun w' => Rt w' p (s.fused n)) F (.returned (.int .i64 0)) w) := by
  obtain ⟨g, r0, r1, uv, L, h, hL⟩ := h
  have h5 : w.cell? ⟨p, 2, none⟩ = some (.bool s.burns) := h.ptr.cell 2
  have h6 : w.cell? ⟨p, 3, none⟩ = some (.int .i64 L) := h.ptr.cell 3
  have f5 := h.ptr.frozen 2
  have f6 := h.ptr.frozen 3
  have d0 : decide (n < 0) = false := by simp; omega
  have d1 : decide (1099511627776 < n) = false := by simp; omega
  have HF : Hid (∀ x, (s.burns = false → x = n) → (s.burns = true → x = min n s.left) → Did (fun w' => Rt w' p (s.fused n)) F (.returned (.int .i64 0)) w (.returned (.int .i64 0)) ((w.setCell ⟨p, 2, none⟩ (.bool true)).setCell ⟨p, 3, none⟩ (.int .i64 x))) := fun x hx0 hx1 => by
    have hp := (h.ptr.set_ 2 (.bool true)).set_ 3 (.int .i64 x)
    have hk : Kept (fun b => b = p) w ((w.setCell ⟨p, 2, none⟩ (.bool true)).setCell ⟨p, 3, none⟩ (.int .i64 x)) := ((Kept.refl (fun b => b = p) w).set (p := ⟨p, 2, none⟩) (.inl rfl) _).set (p := ⟨p, 3, none⟩) (.inl rfl) _
    refine ⟨rfl, F, ⟨g, r0, r1, uv, x, h.fuse hk hp, fun _ => ?_⟩, hk.mono fun b hb => hb ▸ h.fpq, Grew.refl _ _⟩
    show x = if s.burns = true then min n s.left else n
    cases hb : s.burns
    · rw [hx0 hb]; rfl
    · rw [hx1 hb]; rfl
  clear h
  cases hb : s.burns
  · rw [hb] at h5
    have HX := Lib.hid (HF.out n (fun _ => rfl) (fun h => by rw [hb] at h; cases h))
    clear HF hL hb
    go_enter Try.func29, Try.ntmps29
    go_wp2
    go_ret
    exact HX.out
  · rw [hb] at h5
    have HX : Hid (∀ x, x = min n L → Did (fun w' => Rt w' p (s.fused n)) F (.returned (.int .i64 0)) w (.returned (.int .i64 0)) ((w.setCell ⟨p, 2, none⟩ (.bool true)).setCell ⟨p, 3, none⟩ (.int .i64 x))) := fun x hx => HF.out x (fun h => by rw [hb] at h; cases h) (fun _ => by rw [hx, hL hb])
    clear HF hL hb
    by_cases hle : L < n
    · go_enter Try.func29, Try.ntmps29
      go_wp2
      go_ret
      exact HX.out _ (by omega)
    · have hle2 : decide (L < n) = false := by simpa using hle
      go_enter Try.func29, Try.ntmps29
      go_wp2
      go_ret
      exact HX.out _ (by omega)
theorem rnew_any (w : World) : Calls Try.prog 10 #[] w (Made (fun w' q => Rt w' q t0) w) := by
  have HFIN : Hid (Made (fun w' q => Rt w' q t0) w (.returned (.pointer (some ⟨w.heap.size + 1, 0, none⟩))) ((w.alloc (.cells #[.slice none 0 0, .slice none 0 0] 28)).alloc (.cells #[.slice (some ⟨w.heap.size, 0, none⟩) 2 2, .slice none 0 0, .bool false, .int .i64 0] 59))) := by
    have hg := (Blk.new w 28 [.slice none 0 0, .slice none 0 0]).alloc (.cells #[.slice (some ⟨w.heap.size, 0, none⟩) 2 2, .slice none 0 0, .bool false, .int .i64 0] 59)
    have hq := Blk.new2 w (.cells #[.slice none 0 0, .slice none 0 0] 28) [.slice (some ⟨w.heap.size, 0, none⟩) 2 2, .slice none 0 0, .bool false, .int .i64 0] 59
    have nb : ∀ b, ¬ blk (.slice none 0 0) (.slice none 0 0) b := fun b hb => by simp [blk, Value.ownBlock] at hb
    refine ⟨w.heap.size + 1, fun b => b = w.heap.size ∨ b = w.heap.size + 1, rfl, ⟨w.heap.size, _, _, _, 0, ⟨hq, hg, Pr.nil _, GOwn.nil _ _ _, ⟨by omega, by simp [Value.ownBlock], nb _⟩, ⟨by simp [Value.ownBlock], nb _⟩, fun b hb => by simp [Value.ownBlock] at hb, .inr rfl, .inl rfl, fun b hb => (nb b hb).elim, fun b hb => by simp [Value.ownBlock] at hb, fun b hb => by simp; omega⟩, fun hb => by cases hb⟩, fun b hb => by omega, ((Below.refl _ _).alloc (Nat.le_refl _) _).alloc (by simp) _⟩
  go_enter Try.func10, Try.ntmps10
  go_wp2
  go_ret
  exact HFIN.out
end Go.Proofs.Ytpcmfbdlfjlobaa
