/- copied: both sides in memory of their own. -/
import Derived.Test.YtpcmfbdlfjlobaaT2
namespace Go.Proofs.Ytpcmfbdlfjlobaa
open Go.RowKit
set_option linter.unusedVariables false
attribute [local go_sem ↓] Go.wp_at_zero Go.wp_at_succ
theorem below_at3 {Q : Nat} {w w' : World} (h : Below Q w w') (e : w.heap.size = Q) : Below w.heap.size w w' := by rw [e]; exact h
def Copied (s : Sd) (w : World) (e : Ending) (w' : World) : Prop := ∃ A0 c0 A1 c1, e = .returned (.agg #[.slice A0 s.a.length c0, .slice A1 s.b.length c1]) ∧ Pr w' (.slice A0 s.a.length c0) (.slice A1 s.b.length c1) s ∧ Below w.heap.size w w' ∧ ∀ b, blk (.slice A0 s.a.length c0) (.slice A1 s.b.length c1) b → w.heap.size ≤ b
def Fr (wr : World) (Q : Nat) (x : Value) (l : List UInt8) : Prop := ∃ A c, x = .slice A l.length c ∧ GOwn wr 5 1 (.slice A l.length c) l.length (bvals l) ∧ ∀ a, A = some a → Q + 1 < a.block
theorem Fr.keep {wr w' : World} {Q : Nat} {x : Value} {l : List UInt8} (h : Fr wr Q x l) (hk : ∀ b, Q + 1 < b → b < wr.heap.size → w'.heap[b]? = wr.heap[b]?) : Fr w' Q x l := by
  obtain ⟨A, c, rfl, ho, ha⟩ := h
  refine ⟨A, c, rfl, ho.keep fun b hb => ?_, ha⟩
  refine hk b ?_ (ho.lt hb)
  cases A with
  | none => simp [Value.ownBlock] at hb
  | some a =>
    obtain rfl : a.block = b := by simpa [Value.ownBlock] using hb
    exact ha a rfl
def InvC (w : World) (Q : Nat) (s : Sd) (v0 v1 i : Value) (wr : World) : Prop :=
  Below Q w wr ∧ Q + 1 < wr.heap.size ∧ Blk wr (Q + 1) 52 [.slice none 0 0, .slice none 0 0] ∧
    ((i = .int .i64 0 ∧ Blk wr Q 52 [v0, v1]) ∨ (∃ x0, i = .int .i64 1 ∧ Blk wr Q 52 [x0, v1] ∧ Fr wr Q x0 s.a) ∨ (∃ x0 x1, i = .int .i64 2 ∧ Blk wr Q 52 [x0, x1] ∧ Fr wr Q x0 s.a ∧ Fr wr Q x1 s.b ∧ ∀ b, x0.ownBlock = some b → x1.ownBlock ≠ some b))
set_option maxRecDepth 100000 in
set_option maxHeartbeats 4000000 in
theorem copied_any (v0 v1 : Value) (s : Sd) (w : World) (h : Pr w v0 v1 s) (hs : s.ok) :
    Calls Try.prog 35 #[.agg #[v0, v1]] w (Copied s w) := by
  obtain ⟨A0, c0, rfl, hl0, hm0⟩ := h.o0.slice
  obtain ⟨A1, c1, rfl, hl1, hm1⟩ := h.o1.slice
  have H := Lib.hid h
  have HS := Lib.hid hs
  clear h hs
  go_enter Try.func35, Try.ntmps35
  go_wp2_with fail
  generalize hQ : w.heap.size = Q at *
  have HQ := Lib.hid hQ
  have HI : Hid (InvC w Q s (.slice A0 s.a.length c0) (.slice A1 s.b.length c1) (.int .i64 0) ((w.alloc (.cells #[.slice A0 s.a.length c0, .slice A1 s.b.length c1] 52)).alloc (.cells #[.slice none 0 0, .slice none 0 0] 52))) := by
    rw [← HQ.out]
    exact ⟨((Below.refl _ _).alloc (Nat.le_refl _) _).alloc (by simp) _, by simp, Blk.new2 w _ _ 52, .inl ⟨rfl, (Blk.new w 52 [.slice A0 s.a.length c0, .slice A1 s.b.length c1]).alloc _⟩⟩
  clear hQ
  generalize (w.alloc (.cells #[.slice A0 s.a.length c0, .slice A1 s.b.length c1] 52)).alloc (.cells #[.slice none 0 0, .slice none 0 0] 52) = W at *
  go_loopw [3, 4] (fun _ i wr => InvC w Q s (.slice A0 s.a.length c0) (.slice A1 s.b.length c1) i wr) (fun _ i _ => 2 - (intOf i).toNat)
  case atStart => exact HI.out
  case round =>
    clear HI
    obtain ⟨hb, hz, hr, hrel⟩ := hrel
    have HB := Lib.hid hb
    have HZ : Hid (Q + 1 < wr.heap.size) := hz
    have HR := Lib.hid hr
    have HHr := Lib.hid (H.out.below (below_at3 hb HQ.out))
    clear hb hz hr
    rcases hrel with ⟨rfl, hx⟩ | ⟨x0, rfl, hx, hf⟩ | ⟨x0, x1, rfl, hx, hf0, hf1, hap⟩
    · have HX := Lib.hid hx
      have y0 : wr.cell? ⟨Q, 0, none⟩ = some (.slice A0 s.a.length c0) := hx.cell 0
      have HC := Lib.hid (clone_any A0 c0 s.a wr HHr.out.o0.rd (by have := HS.out.1; omega))
      clear hx
      go_wp2_with fail
      refine HC.out.mono ?_
      rintro e w5 ⟨A5, c5, rfl, own5, hg5, hb5⟩
      have HX5 := Lib.hid (HX.out.below hb5 HX.out.lt)
      have HR5 := Lib.hid (HR.out.below hb5 HR.out.lt)
      have HB5 : Hid (Below Q w w5) := HB.out.trans (hb5.mono (by have := HZ.out; omega))
      have z0 : w5.cell? ⟨Q, 0, none⟩ = some (.slice A0 s.a.length c0) := HX5.out.cell 0
      have f0 := HX5.out.frozen 0
      have HF5 : Hid (Fr w5 Q (.slice A5 s.a.length c5) s.a) := ⟨A5, c5, rfl, own5, fun a ha => by have := (hg5 a ha).1; have := HZ.out; omega⟩
      have HZ5 : Hid (Q + 1 < w5.heap.size) := Nat.lt_of_lt_of_le HZ.out hb5.size
      clear own5 hg5 hb5 y0 HC HX HR HB HZ
      go_wp2_with fail
      go_roundw
      case rel => exact ⟨HB5.out.setCell (Nat.le_refl _) _, by simpa using HZ5.out, HR5.out.far (by simp) _, .inr (.inl ⟨_, by go_num, HX5.out.set_ 0 _, HF5.out.keep fun b hb _ => Below.heap_setCell _ _ _ b (by simp; omega)⟩)⟩
      case measure => simp [intOf]
    · have HX := Lib.hid hx
      have HF := Lib.hid hf
      have y1 : wr.cell? ⟨Q, 1, none⟩ = some (.slice A1 s.b.length c1) := hx.cell 1
      have HC := Lib.hid (clone_any A1 c1 s.b wr HHr.out.o1.rd (by have := HS.out.2; omega))
      clear hx hf
      go_wp2_with fail
      refine HC.out.mono ?_
      rintro e w5 ⟨A5, c5, rfl, own5, hg5, hb5⟩
      have HX5 := Lib.hid (HX.out.below hb5 HX.out.lt)
      have HR5 := Lib.hid (HR.out.below hb5 HR.out.lt)
      have HB5 : Hid (Below Q w w5) := HB.out.trans (hb5.mono (by have := HZ.out; omega))
      have z1 : w5.cell? ⟨Q, 1, none⟩ = some (.slice A1 s.b.length c1) := HX5.out.cell 1
      have f1 := HX5.out.frozen 1
      have HF5 : Hid (Fr w5 Q (.slice A5 s.b.length c5) s.b) := ⟨A5, c5, rfl, own5, fun a ha => by have := (hg5 a ha).1; have := HZ.out; omega⟩
      have HF6 : Hid (Fr w5 Q x0 s.a) := HF.out.keep fun b _ hb => hb5.block b hb
      have HZ5 : Hid (Q + 1 < w5.heap.size) := Nat.lt_of_lt_of_le HZ.out hb5.size
      have HAP : Hid (∀ b, x0.ownBlock = some b → (Value.slice A5 s.b.length c5).ownBlock ≠ some b) := fun b h0 h1 => by
        obtain ⟨A, c, rfl, ho, _⟩ := HF.out
        have h2 := ho.lt h0
        cases A5 with
        | none => simp [Value.ownBlock] at h1
        | some a =>
          obtain rfl : a.block = b := by simpa [Value.ownBlock] using h1
          have := (hg5 a rfl).1
          omega
      clear own5 hg5 hb5 y1 HC HX HR HB HZ HF
      go_wp2_with fail
      go_roundw
      case rel => exact ⟨HB5.out.setCell (Nat.le_refl _) _, by simpa using HZ5.out, HR5.out.far (by simp) _, .inr (.inr ⟨x0, _, by go_num, HX5.out.set_ 1 _, HF6.out.keep fun b hb _ => Below.heap_setCell _ _ _ b (by simp; omega), HF5.out.keep fun b hb _ => Below.heap_setCell _ _ _ b (by simp; omega), HAP.out⟩)⟩
      case measure => simp [intOf]
    · obtain ⟨X0, e0, rfl, ho0, hg0⟩ := hf0
      obtain ⟨X1, e1, rfl, ho1, hg1⟩ := hf1
      have y0 : wr.cell? ⟨Q, 0, none⟩ = some (.slice X0 s.a.length e0) := hx.cell 0
      have y1 : wr.cell? ⟨Q, 1, none⟩ = some (.slice X1 s.b.length e1) := hx.cell 1
      have z0 : wr.cell? ⟨Q + 1, 0, none⟩ = some (.slice none 0 0) := HR.out.cell 0
      have z1 : wr.cell? ⟨Q + 1, 1, none⟩ = some (.slice none 0 0) := HR.out.cell 1
      have f0 := HR.out.frozen 0
      have f1 := HR.out.frozen 1
      have HFIN : Hid (Copied s w (.returned (.agg #[.slice X0 s.a.length e0, .slice X1 s.b.length e1])) ((wr.setCell ⟨Q + 1, 0, none⟩ (.slice X0 s.a.length e0)).setCell ⟨Q + 1, 1, none⟩ (.slice X1 s.b.length e1))) := by
        have hk : ∀ b, Q + 1 < b → ((wr.setCell ⟨Q + 1, 0, none⟩ (.slice X0 s.a.length e0)).setCell ⟨Q + 1, 1, none⟩ (.slice X1 s.b.length e1)).heap[b]? = wr.heap[b]? := fun b hb => (Below.heap_setCell _ _ _ b (by simp; omega)).trans (Below.heap_setCell _ _ _ b (by simp; omega))
        have hg : ∀ (X : Option Addr) n c, (∀ a, X = some a → Q + 1 < a.block) → ∀ b, (Value.slice X n c).ownBlock = some b → Q + 1 < b := fun X n c hX b hb => by
          cases X with
          | none => simp [Value.ownBlock] at hb
          | some a =>
            obtain rfl : a.block = b := by simpa [Value.ownBlock] using hb
            exact hX a rfl
        refine ⟨X0, e0, X1, e1, rfl, ⟨ho0.keep fun b hb => hk b (hg _ _ _ hg0 b hb), ho1.keep fun b hb => hk b (hg _ _ _ hg1 b hb), hap⟩, ?_, fun b hb => ?_⟩
        · rw [HQ.out]
          exact (HB.out.setCell (by show Q ≤ Q + 1; omega) _).setCell (by show Q ≤ Q + 1; omega) _
        · rw [HQ.out]
          rcases hb with hb | hb
          · have := hg _ _ _ hg0 b hb; omega
          · have := hg _ _ _ hg1 b hb; omega
      clear hx hap ho0 ho1 hg0 hg1 HB HZ HR HHr H HS
      go_wp2_with fail
      exact bodyPost_ret (v := .agg #[.slice X0 s.a.length e0, .slice X1 s.b.length e1]) (by simp [results, Try.results35, go_sem, z0, z1]) rfl HFIN.out
end Go.Proofs.Ytpcmfbdlfjlobaa
