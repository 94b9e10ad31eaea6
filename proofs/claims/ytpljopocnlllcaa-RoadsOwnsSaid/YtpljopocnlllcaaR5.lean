/- Contracts of Clone and lose. -/
import Derived.Test.YtpljopocnlllcaaR2
import Derived.Deep.RegionWith
import Derived.Deep.RegionHeld3
namespace Go.Proofs.Ytpljopocnlllcaa
open Go.RowKit
attribute [local go_sem ↓] Go.wp_at_zero Go.wp_at_succ
def Cloned (bs : List UInt8) (w : World) (e : Ending) (w' : World) : Prop := ∃ A c, e = .returned (.slice A bs.length c) ∧ Rd w' A (bvals bs) ∧ bs.length ≤ c ∧ c ≤ maxLen ∧ (∀ a, A = some a → w.heap.size ≤ a.block ∧ a.block < w'.heap.size) ∧ Below w.heap.size w w'
theorem Cloned.mk_ {bs : List UInt8} {w w' : World} {e : Ending} {A : Option Addr} {c : Nat} (he : e = .returned (.slice A bs.length c)) (h1 : Rd w' A (bvals bs)) (h2 : bs.length ≤ c) (h3 : c ≤ maxLen) (h4 : ∀ a, A = some a → w.heap.size ≤ a.block ∧ a.block < w'.heap.size) (h5 : Below w.heap.size w w') : Cloned bs w e w' := ⟨A, c, he, h1, h2, h3, h4, h5⟩
set_option maxRecDepth 100000 in
theorem clone_any (A : Option Addr) (c : Nat) (bs : List UInt8) (w : World) (hr : Rd w A (bvals bs)) (hl : bs.length ≤ 1000000) : Calls Try.prog 33 #[.slice A bs.length c] w (Cloned bs w) := by
  cases A with
  | none =>
    have hb : bs = [] := by
      rcases hr with h | ⟨b, off, e, _⟩
      · simpa [bvals] using h
      · cases e
    subst hb
    have hq := fun wx => Lib.run_eql_slice_nil (P := Try.prog) wx 30 5 none 0 c 0 0 Try.underlying30
    go_enter Try.func33, Try.ntmps33
    go_wp2
    go_ret
    exact Cloned.mk_ (A := none) (c := 0) rfl (Rd.nil _ _) (by simp) (by simp) (fun a h => by cases h) (Below.refl _ _)
  | some a =>
    have HR := Lib.hid hr
    clear hr
    have hq := fun wx => Lib.run_eql_slice_nil (P := Try.prog) wx 30 5 (some a) bs.length c 0 0 Try.underlying30
    go_enter Try.func33, Try.ntmps33
    go_wp2_with (at_builtin; obtain ⟨v5, w5, hrun5, own5, grow5, at5⟩ := g_app byteE 30 (GOwn.of_blk (n := 0) (Blk.new w 5 []) rfl (by simp)) bs.length c (HR.out.alloc _) (by rw [bvals_length, Nat.mul_one]) (bvals_one bs) (by omega) (by unfold maxLen; omega); obtain ⟨A5, c5, hv5, hc5, hm5⟩ := own5.slice; subst hv5; refine wpl_append rfl (.tmp 5) (.tmp 6) 30 30 rfl _ _ rfl rfl hrun5 ?_)
    simp only [Nat.zero_add, List.nil_append] at own5 hc5
    have hR := own5.rd
    have hB : Below w.heap.size w w5 := ((Below.refl _ _).alloc (Nat.le_refl _) _).grown grow5 (by simp) (fun k hk => by simp [Value.ownBlock] at hk; omega)
    have hge : ∀ x, A5 = some x → w.heap.size ≤ x.block ∧ x.block < w5.heap.size := fun x hx => by
      subst hx
      refine ⟨?_, own5.lt rfl⟩
      rcases at5 x.block rfl with h | h
      · simp [Value.ownBlock] at h; omega
      · simp at h; omega
    have HH : Hid (Cloned bs w (.returned (.slice A5 bs.length c5)) w5) := Cloned.mk_ rfl hR hc5 hm5 hge hB
    clear hR hB hge own5 grow5 at5 hrun5 HR
    go_wp2
    go_ret
    exact HH.out
end Go.Proofs.Ytpljopocnlllcaa
