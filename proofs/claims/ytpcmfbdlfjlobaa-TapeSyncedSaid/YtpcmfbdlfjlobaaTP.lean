/- How a tape lies in memory, the program's. -/
import Derived.Test.YtpcmfbdlfjlobaaT0
namespace Go.Proofs.Ytpcmfbdlfjlobaa
open Go.RowKit
set_option linter.unusedVariables false
/-- Both sides: two slices of bytes, each with a place of its own. -/
structure Pr (w : World) (v0 v1 : Value) (s : Sd) : Prop where
  o0 : GOwn w 5 1 v0 s.a.length (bvals s.a)
  o1 : GOwn w 5 1 v1 s.b.length (bvals s.b)
  ap : ∀ b, v0.ownBlock = some b → v1.ownBlock ≠ some b
def blk (v0 v1 : Value) (b : Nat) : Prop := v0.ownBlock = some b ∨ v1.ownBlock = some b
section
variable {w w' : World} {v0 v1 : Value} {s : Sd}
theorem Pr.nil (w : World) : Pr w (.slice none 0 0) (.slice none 0 0) ⟨[], []⟩ := ⟨GOwn.nil _ _ _, GOwn.nil _ _ _, fun b hb => by simp [Value.ownBlock] at hb⟩
theorem Pr.lt (h : Pr w v0 v1 s) : ∀ b, blk v0 v1 b → b < w.heap.size := fun b hb => hb.elim (fun hb => h.o0.lt hb) (fun hb => h.o1.lt hb)
theorem Pr.keep (h : Pr w v0 v1 s) (hk : ∀ b, blk v0 v1 b → w'.heap[b]? = w.heap[b]?) : Pr w' v0 v1 s := ⟨h.o0.keep fun b hb => hk b (.inl hb), h.o1.keep fun b hb => hk b (.inr hb), h.ap⟩
theorem Pr.kept {G : Nat → Prop} (h : Pr w v0 v1 s) (hk : Kept G w w') (hd : ∀ b, blk v0 v1 b → ¬ G b) : Pr w' v0 v1 s := h.keep fun b hb => hk.block (h.lt b hb) (hd b hb)
theorem Pr.below (h : Pr w v0 v1 s) (hb : Below w.heap.size w w') : Pr w' v0 v1 s := h.keep fun b hk => hb.block b (h.lt b hk)
def pv (v0 v1 : Value) : Bool → Value
  | false => v0
  | true => v1
theorem Pr.own (h : Pr w v0 v1 s) (o : Bool) : GOwn w 5 1 (pv v0 v1 o) (s.get o).length (bvals (s.get o)) := by cases o; exact h.o0; exact h.o1
end
/-- What lies at p and about it: the sides that last, the sides now, the units since. -/
structure TpW (w : World) (p : Nat) (sf nw : Sd) (us : List Un) (bu : Bool) (L : Int) (F : Nat → Prop) (s0 s1 n0 n1 uv : Value) : Prop where
  ptr : Blk w p 55 [s0, s1, n0, n1, uv, .bool bu, .int .i64 L]
  safe : Pr w s0 s1 sf
  now : Pr w n0 n1 nw
  us : GOwn w 61 3 uv us.length (ucells us)
  d1 : ∀ b, blk s0 s1 b → ¬ blk n0 n1 b
  d2 : ∀ b, uv.ownBlock = some b → ¬ blk s0 s1 b ∧ ¬ blk n0 n1 b
  dp : ¬ blk s0 s1 p ∧ ¬ blk n0 n1 p ∧ uv.ownBlock ≠ some p
  fpp : F p
  fps : ∀ b, blk s0 s1 b → F b
  fpn : ∀ b, blk n0 n1 b → F b
  fpu : ∀ b, uv.ownBlock = some b → F b
  lt : ∀ b, F b → b < w.heap.size
def Tp (w : World) (p : Nat) (s : TSt) (F : Nat → Prop) : Prop := ∃ s0 s1 n0 n1 uv L, TpW w p s.safe s.now s.us s.burns L F s0 s1 n0 n1 uv ∧ (s.burns = true → L = s.left)
section
variable {w w' : World} {p : Nat} {sf nw : Sd} {us : List Un} {bu : Bool} {L : Int} {F G : Nat → Prop} {s0 s1 n0 n1 uv : Value}
theorem TpW.kept (h : TpW w p sf nw us bu L F s0 s1 n0 n1 uv) (hk : Kept G w w') (hd : ∀ b, F b → ¬ G b) : TpW w' p sf nw us bu L F s0 s1 n0 n1 uv :=
  { ptr := (hk.block (h.lt p h.fpp) (hd p h.fpp)).trans h.ptr
    safe := h.safe.kept hk fun b hb => hd b (h.fps b hb)
    now := h.now.kept hk fun b hb => hd b (h.fpn b hb)
    us := h.us.keep fun b hb => hk.block (h.lt b (h.fpu b hb)) (hd b (h.fpu b hb))
    d1 := h.d1, d2 := h.d2, dp := h.dp, fpp := h.fpp, fps := h.fps, fpn := h.fpn, fpu := h.fpu
    lt := fun b hb => Nat.lt_of_lt_of_le (h.lt b hb) hk.size }
theorem TpW.below (h : TpW w p sf nw us bu L F s0 s1 n0 n1 uv) (hb : Below w.heap.size w w') : TpW w' p sf nw us bu L F s0 s1 n0 n1 uv := h.kept (Kept.of_below (fun _ => False) hb) (fun _ _ h => h)
/-- Only the fuse's cells are written. -/
theorem TpW.fuse (h : TpW w p sf nw us bu L F s0 s1 n0 n1 uv) (hk : Kept (fun b => b = p) w w') {bu' : Bool} {L' : Int} (hp : Blk w' p 55 [s0, s1, n0, n1, uv, .bool bu', .int .i64 L']) : TpW w' p sf nw us bu' L' F s0 s1 n0 n1 uv :=
  { ptr := hp
    safe := h.safe.kept hk fun b hb e => h.dp.1 (e ▸ hb)
    now := h.now.kept hk fun b hb e => h.dp.2.1 (e ▸ hb)
    us := h.us.keep fun b hb => hk.block (h.lt b (h.fpu b hb)) fun e => h.dp.2.2 (e ▸ hb)
    d1 := h.d1, d2 := h.d2, dp := h.dp, fpp := h.fpp, fps := h.fps, fpn := h.fpn, fpu := h.fpu
    lt := fun b hb => Nat.lt_of_lt_of_le (h.lt b hb) hk.size }
/-- The sides now are others. -/
theorem TpW.turn (h : TpW w p sf nw us bu L F s0 s1 n0 n1 uv) (hk : Kept (fun b => b = p ∨ blk n0 n1 b) w w') {n0' n1' : Value} {nw' : Sd} (hp : Blk w' p 55 [s0, s1, n0', n1', uv, .bool bu, .int .i64 L]) (hn : Pr w' n0' n1' nw') (hg : Grew (blk n0 n1) (blk n0' n1') w) :
    TpW w' p sf nw' us bu L (fun b => F b ∨ blk n0' n1' b) s0 s1 n0' n1' uv := by
  have hs : ∀ b, blk s0 s1 b → ¬ (b = p ∨ blk n0 n1 b) := fun b hb e => e.elim (fun e => h.dp.1 (e ▸ hb)) (h.d1 b hb)
  have hu : ∀ b, uv.ownBlock = some b → ¬ (b = p ∨ blk n0 n1 b) := fun b hb e => e.elim (fun e => h.dp.2.2 (e ▸ hb)) (h.d2 b hb).2
  exact
  { ptr := hp
    safe := h.safe.kept hk hs
    now := hn
    us := h.us.keep fun b hb => hk.block (h.lt b (h.fpu b hb)) (hu b hb)
    d1 := fun b hb hb' => by
      rcases hg b hb' with e | e
      · exact h.d1 b hb e
      · have := h.lt b (h.fps b hb); omega
    d2 := fun b hb => ⟨(h.d2 b hb).1, fun hb' => by
      rcases hg b hb' with e | e
      · exact (h.d2 b hb).2 e
      · have := h.lt b (h.fpu b hb); omega⟩
    dp := ⟨h.dp.1, fun hb' => by
      rcases hg p hb' with e | e
      · exact h.dp.2.1 e
      · have := h.lt p h.fpp; omega, h.dp.2.2⟩
    fpp := .inl h.fpp, fps := fun b hb => .inl (h.fps b hb), fpn := fun b hb => .inr hb, fpu := fun b hb => .inl (h.fpu b hb)
    lt := fun b hb => hb.elim (fun hb => Nat.lt_of_lt_of_le (h.lt b hb) hk.size) (hn.lt b) }
/-- The units are others. -/
theorem TpW.units (h : TpW w p sf nw us bu L F s0 s1 n0 n1 uv) (hk : Kept (fun b => b = p ∨ uv.ownBlock = some b) w w') {uv' : Value} {us' : List Un} (hp : Blk w' p 55 [s0, s1, n0, n1, uv', .bool bu, .int .i64 L]) (hn : GOwn w' 61 3 uv' us'.length (ucells us')) (hg : ∀ b, uv'.ownBlock = some b → uv.ownBlock = some b ∨ w.heap.size ≤ b) :
    TpW w' p sf nw us' bu L (fun b => F b ∨ uv'.ownBlock = some b) s0 s1 n0 n1 uv' := by
  exact
  { ptr := hp
    safe := h.safe.kept hk fun b hb e => e.elim (fun e => h.dp.1 (e ▸ hb)) (fun e => (h.d2 b e).1 hb)
    now := h.now.kept hk fun b hb e => e.elim (fun e => h.dp.2.1 (e ▸ hb)) (fun e => (h.d2 b e).2 hb)
    us := hn
    d1 := h.d1
    d2 := fun b hb => by
      rcases hg b hb with e | e
      · exact h.d2 b e
      · exact ⟨fun hb' => by have := h.lt b (h.fps b hb'); omega, fun hb' => by have := h.lt b (h.fpn b hb'); omega⟩
    dp := ⟨h.dp.1, h.dp.2.1, fun hb => by
      rcases hg p hb with e | e
      · exact h.dp.2.2 e
      · have := h.lt p h.fpp; omega⟩
    fpp := .inl h.fpp, fps := fun b hb => .inl (h.fps b hb), fpn := fun b hb => .inl (h.fpn b hb), fpu := fun b hb => .inr hb
    lt := fun b hb => hb.elim (fun hb => Nat.lt_of_lt_of_le (h.lt b hb) hk.size) (fun hb => hn.lt hb) }
/-- The sides that last are others, and there are no units. -/
theorem TpW.sync (h : TpW w p sf nw us bu L F s0 s1 n0 n1 uv) (hk : Kept (fun b => b = p) w w') {s0' s1' : Value} {sf' : Sd} (hp : Blk w' p 55 [s0', s1', n0, n1, .slice none 0 0, .bool bu, .int .i64 L]) (hn : Pr w' s0' s1' sf') (hg : ∀ b, blk s0' s1' b → w.heap.size ≤ b) :
    TpW w' p sf' nw [] bu L (fun b => F b ∨ blk s0' s1' b) s0' s1' n0 n1 (.slice none 0 0) := by
  exact
  { ptr := hp
    safe := hn
    now := h.now.kept hk fun b hb e => h.dp.2.1 (e ▸ hb)
    us := GOwn.nil _ _ _
    d1 := fun b hb hb' => by have := hg b hb; have := h.lt b (h.fpn b hb'); omega
    d2 := fun b hb => by simp [Value.ownBlock] at hb
    dp := ⟨fun hb => by have := hg p hb; have := h.lt p h.fpp; omega, h.dp.2.1, by simp [Value.ownBlock]⟩
    fpp := .inl h.fpp, fps := fun b hb => .inr hb, fpn := fun b hb => .inl (h.fpn b hb), fpu := fun b hb => by simp [Value.ownBlock] at hb
    lt := fun b hb => hb.elim (fun hb => Nat.lt_of_lt_of_le (h.lt b hb) hk.size) (hn.lt b) }
/-- All sides are others, and there are no units. -/
theorem TpW.fresh (h : TpW w p sf nw us bu L F s0 s1 n0 n1 uv) (hz : w.heap.size ≤ w'.heap.size) {s0' s1' n0' n1' : Value} {sf' nw' : Sd} {bu' : Bool} {L' : Int} (hp : Blk w' p 55 [s0', s1', n0', n1', .slice none 0 0, .bool bu', .int .i64 L']) (hs : Pr w' s0' s1' sf') (hn : Pr w' n0' n1' nw')
    (hg : ∀ b, blk s0' s1' b → w.heap.size ≤ b) (hg2 : ∀ b, blk n0' n1' b → w.heap.size ≤ b) (hd : ∀ b, blk s0' s1' b → ¬ blk n0' n1' b) :
    TpW w' p sf' nw' [] bu' L' (fun b => F b ∨ blk s0' s1' b ∨ blk n0' n1' b) s0' s1' n0' n1' (.slice none 0 0) := by
  exact
  { ptr := hp
    safe := hs
    now := hn
    us := GOwn.nil _ _ _
    d1 := hd
    d2 := fun b hb => by simp [Value.ownBlock] at hb
    dp := ⟨fun hb => by have := hg p hb; have := h.lt p h.fpp; omega, fun hb => by have := hg2 p hb; have := h.lt p h.fpp; omega, by simp [Value.ownBlock]⟩
    fpp := .inl h.fpp, fps := fun b hb => .inr (.inl hb), fpn := fun b hb => .inr (.inr hb), fpu := fun b hb => by simp [Value.ownBlock] at hb
    lt := fun b hb => by
      rcases hb with hb | hb | hb
      · exact Nat.lt_of_lt_of_le (h.lt b hb) hz
      · exact hs.lt b hb
      · exact hn.lt b hb }
theorem Tp.kept {s : TSt} (h : Tp w p s F) (hk : Kept G w w') (hd : ∀ b, F b → ¬ G b) : Tp w' p s F := by
  obtain ⟨s0, s1, n0, n1, uv, L, h, hL⟩ := h
  exact ⟨s0, s1, n0, n1, uv, L, h.kept hk hd, hL⟩
theorem Tp.below {s : TSt} (h : Tp w p s F) (hb : Below w.heap.size w w') : Tp w' p s F := h.kept (Kept.of_below (fun _ => False) hb) (fun _ _ h => h)
theorem Tp.lt {s : TSt} (h : Tp w p s F) : ∀ b, F b → b < w.heap.size := by
  obtain ⟨s0, s1, n0, n1, uv, L, h, hL⟩ := h
  exact h.lt
theorem Tp.fp_p {s : TSt} (h : Tp w p s F) : F p := by
  obtain ⟨s0, s1, n0, n1, uv, L, h, hL⟩ := h
  exact h.fpp
end
/-- A call that turns a structure, and tells r. -/
def Did (R : World → (Nat → Prop) → Prop) (F : Nat → Prop) (r : Ending) (w : World) (e : Ending) (w' : World) : Prop := e = r ∧ ∃ F', R w' F' ∧ Kept F w w' ∧ Grew F F' w
end Go.Proofs.Ytpcmfbdlfjlobaa
