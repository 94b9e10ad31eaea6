/- What is kept and what has grown. -/
import Derived.Test.YtpcmfbdlfjlobaaGO
namespace Go.Proofs.Ytpcmfbdlfjlobaa
open Go.RowKit
def Kept (F : Nat → Prop) (w w' : World) : Prop := w'.os = w.os ∧ w'.tape = w.tape ∧ w'.output = w.output ∧ w.heap.size ≤ w'.heap.size ∧ ∀ k, k < w.heap.size → ¬ F k → w'.heap[k]? = w.heap[k]?
def Grew (F F' : Nat → Prop) (w : World) : Prop := ∀ k, F' k → F k ∨ w.heap.size ≤ k
section
variable {F F' G : Nat → Prop} {w w' w'' : World}
theorem Kept.refl (F : Nat → Prop) (w : World) : Kept F w w := ⟨rfl, rfl, rfl, Nat.le_refl _, fun _ _ _ => rfl⟩
theorem Kept.size (h : Kept F w w') : w.heap.size ≤ w'.heap.size := h.2.2.2.1
theorem Kept.block (h : Kept F w w') {k : Nat} (hk : k < w.heap.size) (hF : ¬ F k) : w'.heap[k]? = w.heap[k]? := h.2.2.2.2 k hk hF
theorem Kept.of_below (F : Nat → Prop) (h : Below w.heap.size w w') : Kept F w w' := ⟨h.os, h.tape, h.output, h.size, fun k hk _ => h.block k hk⟩
theorem Kept.trans (h : Kept F w w') (g : Grew F F' w) (h2 : Kept F' w' w'') : Kept F w w'' := by
  refine ⟨h2.1.trans h.1, h2.2.1.trans h.2.1, h2.2.2.1.trans h.2.2.1, Nat.le_trans h.size h2.size, fun k hk hF => ?_⟩
  exact (h2.block (Nat.lt_of_lt_of_le hk h.size) (fun hF' => by rcases g k hF' with h | h; exact hF h; omega)).trans (h.block hk hF)
theorem Kept.mono (h : Kept F w w') (hg : ∀ k, F k → G k) : Kept G w w' := ⟨h.1, h.2.1, h.2.2.1, h.size, fun k hk hG => h.block hk (fun hF => hG (hg k hF))⟩
theorem Kept.below (h : Kept F w w') {B : Nat} (hB : ∀ k, F k → B ≤ k) (hw : B ≤ w.heap.size) : Below B w w' := ⟨h.1, h.2.1, h.2.2.1, h.size, fun k hk => h.block (Nat.lt_of_lt_of_le hk hw) (fun hF => by have := hB k hF; omega)⟩
theorem Kept.set (h : Kept F w w') {p : Addr} (hp : F p.block ∨ w.heap.size ≤ p.block) (u : Value) : Kept F w (w'.setCell p u) := by
  refine ⟨h.1, h.2.1, h.2.2.1, by have := h.size; simpa using this, fun k hk hF => ?_⟩
  refine (Below.heap_setCell w' p u k (fun e => ?_)).trans (h.block hk hF)
  subst e
  rcases hp with hp | hp
  · exact hF hp
  · omega
theorem Kept.alloc (h : Kept F w w') (o : Obj) : Kept F w (w'.alloc o) := ⟨h.1, h.2.1, h.2.2.1, by have := h.size; simp; omega, fun k hk hF => (Below.heap_alloc w' o k (Nat.lt_of_lt_of_le hk h.size)).trans (h.block hk hF)⟩
theorem Kept.drew (h : Kept F w w') : Kept F w w'.drew := h
theorem Kept.drewN (h : Kept F w w') (n : Nat) : Kept F w (w'.drewN n) := h
theorem Kept.grown (h : Kept F w w') {row : Option Nat} (hg : w'.grownBy w'' row) (hr : ∀ k, row = some k → F k ∨ w.heap.size ≤ k) : Kept F w w'' := by
  refine ⟨hg.os.trans h.1, hg.tape.trans h.2.1, hg.output.trans h.2.2.1, Nat.le_trans h.size hg.size, fun k hk hF => ?_⟩
  refine (hg.block k (Nat.lt_of_lt_of_le hk h.size) (fun e => ?_)).trans (h.block hk hF)
  rcases hr k e.symm with h1 | h1
  · exact hF h1
  · omega
theorem Grew.refl (F : Nat → Prop) (w : World) : Grew F F w := fun _ h => .inl h
theorem Grew.trans {F'' : Nat → Prop} (h : Grew F F' w) (h2 : Grew F' F'' w') (hz : w.heap.size ≤ w'.heap.size) : Grew F F'' w := fun k hk => by
  rcases h2 k hk with h3 | h3
  · exact h k h3
  · exact .inr (Nat.le_trans hz h3)
theorem Rd.kept {A : Option Addr} {xs : List Value} (h : Rd w A xs) (hk : Kept F w w') (hA : ∀ a, A = some a → ¬ F a.block) : Rd w' A xs := by
  rcases h with h | ⟨b, off, e, hlt, hc⟩
  · exact .inl h
  · exact .inr ⟨b, off, e, Nat.lt_of_lt_of_le hlt hk.size, fun j u hu => (World.cell?_of_block (w := w) (a := ⟨b, off + j, none⟩) (hk.block hlt (hA ⟨b, off, none⟩ e))).trans (hc j u hu)⟩
theorem Rd.at_blocks {A : Option Addr} {xs : List Value} (h : Rd w A xs) (hz : w.heap.size ≤ w'.heap.size) (hk : ∀ a, A = some a → a.block < w.heap.size → w'.heap[a.block]? = w.heap[a.block]?) : Rd w' A xs := by
  rcases h with h | ⟨b, off, e, hlt, hc⟩
  · exact .inl h
  · exact .inr ⟨b, off, e, Nat.lt_of_lt_of_le hlt hz, fun j u hu => (World.cell?_of_block (w := w) (a := ⟨b, off + j, none⟩) (hk ⟨b, off, none⟩ e hlt)).trans (hc j u hu)⟩
end
def ivals (l : List Int) : List Value := l.map (Value.int .i64)
theorem ivals_length (l : List Int) : (ivals l).length = l.length := by simp [ivals]
theorem ivals_at (l : List Int) (j : Nat) (h : j < l.length) : (ivals l)[j]? = some (.int .i64 (l.getD j 0)) := by simp [ivals, h]
theorem kept_b {w w1 w2 : World} {F : Nat → Prop} (h : Kept F w w1) (hb : Below w1.heap.size w1 w2) : Kept F w w2 := ⟨hb.os.trans h.1, hb.tape.trans h.2.1, hb.output.trans h.2.2.1, Nat.le_trans h.size hb.size, fun k hk hF => (hb.block k (Nat.lt_of_lt_of_le hk h.size)).trans (h.block hk hF)⟩
theorem Below.drewN_ {B : Nat} {w w' : World} (h : Below B w w') (k : Nat) : Below B w (w'.drewN k) := ⟨h.os, h.tape, h.output, h.size, h.block⟩
theorem GOwn.of_blk {w : World} {g : Nat} {e : TypeId} {size n : Nat} {cs : List Value} (h : Blk w g e cs) (hl : cs.length = n * size) (hm : n ≤ maxLen) : GOwn w e size (.slice (some ⟨g, 0, none⟩) n n) n cs :=
  ⟨hl, .inr ⟨g, 0, n, cs.toArray, rfl, h, Nat.le_refl _, hm, by simp [hl], by simp [← hl]⟩⟩
end Go.Proofs.Ytpcmfbdlfjlobaa
