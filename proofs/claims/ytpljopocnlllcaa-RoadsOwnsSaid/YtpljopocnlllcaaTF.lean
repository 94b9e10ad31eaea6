/- Take of a packet that stays: what is told is the caller's own. -/
import Derived.Test.YtpljopocnlllcaaR8
namespace Go.Proofs.Ytpljopocnlllcaa
open Go.RowKit
attribute [local go_sem ↓] Go.wp_at_zero Go.wp_at_succ
def ClonedO (bs : List UInt8) (w : World) (e : Ending) (w' : World) : Prop := ∃ A c, e = .returned (.slice A bs.length c) ∧ GOwn w' 5 1 (.slice A bs.length c) bs.length (bvals bs) ∧ (∀ a, A = some a → w.heap.size ≤ a.block ∧ a.block < w'.heap.size) ∧ Below w.heap.size w w'
def TookO (to : Int) (bs : List UInt8) (w : World) (e : Ending) (w' : World) : Prop :=
  ∃ A c, e = .returned (.tuple #[.int .i64 to, .slice A (List.length bs) c, .int .i64 0]) ∧ GOwn w' 5 1 (.slice A bs.length c) bs.length (bvals bs) ∧ (∀ a, A = some a → w.heap.size ≤ a.block ∧ a.block < w'.heap.size) ∧ Below w.heap.size w w'
set_option maxRecDepth 100000 in
theorem clone_own (A : Option Addr) (c : Nat) (bs : List UInt8) (w : World) (hr : Rd w A (bvals bs)) (hl : bs.length ≤ 1000000) : Calls Try.prog 33 #[.slice A bs.length c] w (ClonedO bs w) := by
  cases A with
  | none =>
    have hb : bs = [] := by
      rcases hr with h | ⟨b, off, e, _⟩
      · simpa [bvals] using h
      · cases e
    subst hb
    have hq := fun wx => Lib.run_eql_slice_nil (P := Try.prog) wx 30 5 none 0 c 0 0 Try.underlying30
    go_enter Try.func33, Try.ntmps33
    go_wp2
    go_ret
    exact ⟨none, 0, rfl, GOwn.nil _ _ _, (fun a h => by cases h), Below.refl _ _⟩
  | some a =>
    have HR := Lib.hid hr
    clear hr
    have hq := fun wx => Lib.run_eql_slice_nil (P := Try.prog) wx 30 5 (some a) bs.length c 0 0 Try.underlying30
    go_enter Try.func33, Try.ntmps33
    go_wp2_with (at_builtin; obtain ⟨v5, w5, hrun5, own5, grow5, at5⟩ := g_app byteE 30 (GOwn.of_blk (n := 0) (Blk.new w 5 []) rfl (by simp)) bs.length c (HR.out.alloc _) (by rw [bvals_length, Nat.mul_one]) (bvals_one bs) (by omega) (by unfold maxLen; omega); obtain ⟨A5, c5, hv5, hc5, hm5⟩ := own5.slice; subst hv5; refine wpl_append rfl (.tmp 5) (.tmp 6) 30 30 rfl _ _ rfl rfl hrun5 ?_)
    simp only [Nat.zero_add, List.nil_append] at own5 hc5
    have hR := own5.rd
    have hB : Below w.heap.size w w5 := ((Below.refl _ _).alloc (Nat.le_refl _) _).grown grow5 (by simp) (fun k hk => by simp [Value.ownBlock] at hk; omega)
    have hge : ∀ x, A5 = some x → w.heap.size ≤ x.block ∧ x.block < w5.heap.size := fun x hx => by
      subst hx
      refine ⟨?_, own5.lt rfl⟩
      rcases at5 x.block rfl with h | h
      · simp [Value.ownBlock] at h; omega
      · simp at h; omega
    have HH : Hid (ClonedO bs w (.returned (.slice A5 bs.length c5)) w5) := ⟨A5, c5, rfl, own5, hge, hB⟩
    clear hR hB hge own5 grow5 at5 hrun5 HR
    go_wp2
    go_ret
    exact HH.out
set_option maxRecDepth 100000 in
set_option maxHeartbeats 4000000 in
theorem take_own {w : World} {p : Nat} {s : St} {F : Nat → Prop} (k : Nat) (to : Int) (bs : List UInt8) (h : Rep 51 64 w p s F) (hg : s.good) (hk : s.ps[k]? = some (to, bs)) (hb : bs.length ≤ 1000) :
    Calls Try.prog 20 #[.pointer (some ⟨p, 0, none⟩), .int .i64 (k : Int), .bool true] w (TookO to bs w) := by
  have hR := Lib.hid h
  obtain ⟨cv, kv, qs, h⟩ := h
  have hql := h.len
  have hkl : k < qs.length := by
    have := (List.getElem?_eq_some_iff.1 hk).1
    omega
  obtain ⟨gk, off, cap, hkv, hnc, hcm, hgl⟩ := h.pks.form (by omega)
  subst hkv
  have hq : qs[k].to = to ∧ qs[k].bs = bs := by
    rw [← h.eq, List.getElem?_map, List.getElem?_eq_getElem hkl] at hk
    simp [Pk.pair] at hk
    exact hk
  obtain ⟨e1, e2⟩ := pcells_at qs k hkl
  have hc1 := h.pks.cells _ _ e1
  have hc2 := h.pks.cells _ _ e2
  have hok := h.data _ (List.getElem_mem hkl)
  have hfd := h.fpd _ (List.getElem_mem hkl)
  have hap := h.apd _ (List.getElem_mem hkl)
  generalize qs[k] = q at *
  obtain ⟨to2, A, bs2, c⟩ := q
  simp only at hq hc1 hc2 hok hfd hap
  obtain ⟨rfl, rfl⟩ := hq
  have h2 : w.cell? ⟨p, 2, none⟩ = some (.slice (some ⟨gk, off, none⟩) qs.length cap) := h.ptr.cell 2
  have H := Lib.hid h
  have hp1 := hg.p1
  have hq120 : qs.length ≤ 120 := by omega
  have hkl' : (k : Int) < (qs.length : Int) := by omega
  have HQL := Lib.hid hql
  have HOK := Lib.hid hok
  have d0 : decide ((k : Int) < 0) = false := by simp
  have d1 : decide ((qs.length : Int) ≤ (k : Int)) = false := by simp; omega
  rw [← Nat.add_assoc] at hc2
  clear h hk hql hok e1 e2
  have hrdA : Hid (Rd w A (bvals bs2)) := HOK.out.rd
  have hFl : Hid (∀ b, F b → b < w.heap.size) := H.out.lt
  have hAF : Hid (∀ a, A = some a → F a.block) := hfd
  have hAP : Hid (∀ a, A = some a → ¬ (a.block = p ∨ (Value.slice (some ⟨gk, off, none⟩) qs.length cap).ownBlock = some a.block)) := fun a ha hf => by
    obtain ⟨x1, x2, x3⟩ := hap a ha
    rcases hf with hf | hf
    · exact x1 hf
    · exact x3 hf
  have hW1 : Hid (RepW 51 64 (w.alloc (.cells #[.int .i64 to2, .slice A bs2.length c] 64)) p s F cv (.slice (some ⟨gk, off, none⟩) qs.length cap) qs) := H.out.kept (G := fun _ => False) ((Kept.refl _ _).alloc _) (fun _ _ h => h)
  have hK1 : Hid (Kept F w (w.alloc (.cells #[.int .i64 to2, .slice A bs2.length c] 64))) := (Kept.refl _ _).alloc _
  have hR1 : Hid (Rep 51 64 (w.alloc (.cells #[.int .i64 to2, .slice A bs2.length c] 64)) p s F) := hR.out.kept (G := fun _ => False) ((Kept.refl _ _).alloc _) (fun _ _ h => h)
  have hB1 : Hid (Blk (w.alloc (.cells #[.int .i64 to2, .slice A bs2.length c] 64)) w.heap.size 64 [.int .i64 to2, .slice A bs2.length c]) := Blk.new w 64 _
  have hrd1 : Hid (Rd (w.alloc (.cells #[.int .i64 to2, .slice A bs2.length c] 64)) A (bvals bs2)) := hrdA.out.alloc _
  have hz1 : Hid ((w.alloc (.cells #[.int .i64 to2, .slice A bs2.length c] 64)).heap.size = w.heap.size + 1) := by unfold Hid; simp
  have hbl : Hid (Below w.heap.size w (w.alloc (.cells #[.int .i64 to2, .slice A bs2.length c] 64))) := (Below.refl _ _).alloc (Nat.le_refl _) _
  clear hfd hap HOK hK1 hR1 hW1
  · go_enter Try.func20, Try.ntmps20
    go_wp2_with fail
    generalize w.alloc (.cells #[.int .i64 to2, .slice A bs2.length c] 64) = W1 at *
    have b0 := hB1.out.cell 0
    have b1 := hB1.out.cell 1
    have hcl := clone_own A c bs2 W1.drew hrd1.out (by omega)
    have HCL := Lib.hid hcl
    clear hcl
    go_region_law ((go_simp; go_at_call 33; refine HCL.out.mono ?_; rintro e w5 ⟨A5, c5, rfl, r5, g5, b5⟩; have HB5 : Hid (Below W1.heap.size W1 w5) := ⟨b5.os, b5.tape, b5.output, b5.size, b5.block⟩; have b50 := (hB1.out.below HB5.out (by have := hz1.out; omega)).cell 0; have b51 := (hB1.out.below HB5.out (by have := hz1.out; omega)).cell 1; have HG5 : Hid (∀ a, A5 = some a → W1.heap.size ≤ a.block ∧ a.block < w5.heap.size) := g5; have HR5 := Lib.hid r5; clear r5 b5 g5))
    all_goals
      have HFIN : Hid (TookO to2 bs2 w (.returned (.tuple #[.int .i64 to2, .slice A5 bs2.length c5, .int .i64 0])) w5) :=
        ⟨A5, c5, rfl, HR5.out, fun a ha => ⟨by have := (HG5.out a ha).1; have := hz1.out; omega, (HG5.out a ha).2⟩, hbl.out.trans (HB5.out.mono (by have := hz1.out; omega))⟩
      go_wp2_with fail
      go_ret3
      exact HFIN.out
end Go.Proofs.Ytpljopocnlllcaa
