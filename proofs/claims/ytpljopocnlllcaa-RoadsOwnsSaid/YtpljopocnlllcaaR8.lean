/- Contracts of Take and Drop. -/
import Derived.Test.YtpljopocnlllcaaR7
namespace Go.Proofs.Ytpljopocnlllcaa
open Go.RowKit
attribute [local go_sem ↓] Go.wp_at_zero Go.wp_at_succ
def badPlace (n : Nat) (d : Int) : Bool := decide (d < 0) || decide ((n : Int) ≤ d)
theorem take_bad {w : World} {p : Nat} {s : St} {F : Nat → Prop} (d : Int) (v : Value) (h : Rep 51 64 w p s F) (hd : badPlace s.ps.length d = true) :
    Calls Try.prog 20 #[.pointer (some ⟨p, 0, none⟩), .int .i64 d, v] w fun e w' => e = .returned (.tuple #[.int .i64 0, .slice none 0 0, .int .i64 13]) ∧ w = w' := by
  obtain ⟨cv, kv, qs, h⟩ := h
  rw [← h.len] at hd
  obtain ⟨A, cap, hkv, _, _⟩ := h.pks.slice
  have h2 : w.cell? ⟨p, 2, none⟩ = some kv := h.ptr.cell 2
  rw [hkv] at h2
  clear h hkv
  unfold badPlace at hd
  by_cases h0 : d < 0
  · clear hd
    go_enter Try.func20, Try.ntmps20
    go_wp2
    go_ret3
    exact ⟨rfl, rfl⟩
  · have h1 : (qs.length : Int) ≤ d := by simpa [h0] using hd
    have h0' : decide (d < 0) = false := by simpa using h0
    clear hd
    go_enter Try.func20, Try.ntmps20
    go_wp2
    go_ret3
    exact ⟨rfl, rfl⟩
def Took (p : Nat) (s' : St) (F : Nat → Prop) (to : Int) (bs : List UInt8) (w : World) (e : Ending) (w' : World) : Prop :=
  ∃ A c F', e = .returned (.tuple #[.int .i64 to, .slice A (List.length bs) c, .int .i64 0]) ∧ Rd w' A (bvals bs) ∧ bs.length ≤ c ∧ c ≤ maxLen ∧ (∀ a, A = some a → w.heap.size ≤ a.block ∧ ¬ F' a.block ∧ a.block < w'.heap.size) ∧ Rep 51 64 w' p s' F' ∧ Kept F w w' ∧ Grew F F' w
set_option maxRecDepth 100000 in
set_option maxHeartbeats 4000000 in
theorem take_any {w : World} {p : Nat} {s : St} {F : Nat → Prop} (k : Nat) (stays : Bool) (to : Int) (bs : List UInt8) (h : Rep 51 64 w p s F) (hg : s.good) (hk : s.ps[k]? = some (to, bs)) (hb : bs.length ≤ 1000) :
    Calls Try.prog 20 #[.pointer (some ⟨p, 0, none⟩), .int .i64 (k : Int), .bool stays] w (Took p (if stays then s else ⟨s.time, s.clocks, s.ps.eraseIdx k⟩) F to bs w) := by
  have hR := Lib.hid h
  obtain ⟨cv, kv, qs, h⟩ := h
  have hql := h.len
  have hkl : k < qs.length := by
    have := (List.getElem?_eq_some_iff.1 hk).1
    omega
  obtain ⟨gk, off, cap, hkv, hnc, hcm, hgl⟩ := h.pks.form (by omega)
  subst hkv
  have hq : qs[k].to = to ∧ qs[k].bs = bs := by
    rw [← h.eq, List.getElem?_map, List.getElem?_eq_getElem hkl] at hk
    simp [Pk.pair] at hk
    exact hk
  obtain ⟨e1, e2⟩ := pcells_at qs k hkl
  have hc1 := h.pks.cells _ _ e1
  have hc2 := h.pks.cells _ _ e2
  have hok := h.data _ (List.getElem_mem hkl)
  have hfd := h.fpd _ (List.getElem_mem hkl)
  have hap := h.apd _ (List.getElem_mem hkl)
  generalize qs[k] = q at *
  obtain ⟨to2, A, bs2, c⟩ := q
  simp only at hq hc1 hc2 hok hfd hap
  obtain ⟨rfl, rfl⟩ := hq
  have h2 : w.cell? ⟨p, 2, none⟩ = some (.slice (some ⟨gk, off, none⟩) qs.length cap) := h.ptr.cell 2
  have H := Lib.hid h
  have hp1 := hg.p1
  have hq120 : qs.length ≤ 120 := by omega
  have hkl' : (k : Int) < (qs.length : Int) := by omega
  have HQL := Lib.hid hql
  have HOK := Lib.hid hok
  have d0 : decide ((k : Int) < 0) = false := by simp
  have d1 : decide ((qs.length : Int) ≤ (k : Int)) = false := by simp; omega
  rw [← Nat.add_assoc] at hc2
  clear h hk hql hok e1 e2
  have hrdA : Hid (Rd w A (bvals bs2)) := HOK.out.rd
  have hFl : Hid (∀ b, F b → b < w.heap.size) := H.out.lt
  have hAF : Hid (∀ a, A = some a → F a.block) := hfd
  have hAP : Hid (∀ a, A = some a → ¬ (a.block = p ∨ (Value.slice (some ⟨gk, off, none⟩) qs.length cap).ownBlock = some a.block)) := fun a ha hf => by
    obtain ⟨x1, x2, x3⟩ := hap a ha
    rcases hf with hf | hf
    · exact x1 hf
    · exact x3 hf
  have hW1 : Hid (RepW 51 64 (w.alloc (.cells #[.int .i64 to2, .slice A bs2.length c] 64)) p s F cv (.slice (some ⟨gk, off, none⟩) qs.length cap) qs) := H.out.kept (G := fun _ => False) ((Kept.refl _ _).alloc _) (fun _ _ h => h)
  have hK1 : Hid (Kept F w (w.alloc (.cells #[.int .i64 to2, .slice A bs2.length c] 64))) := (Kept.refl _ _).alloc _
  have hR1 : Hid (Rep 51 64 (w.alloc (.cells #[.int .i64 to2, .slice A bs2.length c] 64)) p s F) := hR.out.kept (G := fun _ => False) ((Kept.refl _ _).alloc _) (fun _ _ h => h)
  have hB1 : Hid (Blk (w.alloc (.cells #[.int .i64 to2, .slice A bs2.length c] 64)) w.heap.size 64 [.int .i64 to2, .slice A bs2.length c]) := Blk.new w 64 _
  have hrd1 : Hid (Rd (w.alloc (.cells #[.int .i64 to2, .slice A bs2.length c] 64)) A (bvals bs2)) := hrdA.out.alloc _
  have hz1 : Hid ((w.alloc (.cells #[.int .i64 to2, .slice A bs2.length c] 64)).heap.size = w.heap.size + 1) := by unfold Hid; simp
  clear hfd hap HOK
  cases stays
  · go_enter Try.func20, Try.ntmps20
    go_wp2_with fail
    generalize w.alloc (.cells #[.int .i64 to2, .slice A bs2.length c] 64) = W1 at *
    refine (lose_anyW k hW1.out (by have := HQL.out; omega) (by omega)).mono ?_
    rintro e w4 ⟨rfl, F2, hr4, hk4, hg4⟩
    have hlF : ¬ (w.heap.size = p ∨ (Value.slice (some ⟨gk, off, none⟩) qs.length cap).ownBlock = some w.heap.size) := fun hf => by have := hFl.out _ (H.out.fpk2 _ hf); omega
    have hB4 : Hid (Blk w4 w.heap.size 64 [.int .i64 to2, .slice A bs2.length c]) := (hk4.block (by have := hz1.out; omega) hlF).trans hB1.out
    have hrd4 : Hid (Rd w4 A (bvals bs2)) := hrd1.out.kept hk4 hAP.out
    have HREP : Hid (Rep 51 64 w4 p ⟨s.time, s.clocks, s.ps.eraseIdx k⟩ F2) := hr4
    have HGx : Hid (Grew F F2 w) := fun b hb => by
      rcases hg4 b hb with h | h
      · exact .inl h
      · exact .inr (by have := hz1.out; omega)
    have HKx : Hid (Kept F w w4) := hK1.out.trans (Grew.refl F w) (hk4.mono H.out.fpk2)
    have hz4 : Hid (w.heap.size < w4.heap.size) := by have := hz1.out; have := hk4.size; unfold Hid; omega
    clear hr4 hk4 hg4 hlF
    go_wp2_with fail
    have b0 := hB4.out.cell 0
    have b1 := hB4.out.cell 1
    have hcl := clone_any A c bs2 w4.drew hrd4.out (by omega)
    have HCL := Lib.hid hcl
    clear hcl
    go_region_law ((go_simp; go_at_call 33; refine HCL.out.mono ?_; rintro e w5 ⟨A5, c5, rfl, r5, l5, m5, g5, b5⟩; have HB5 : Hid (Below w4.heap.size w4 w5) := ⟨b5.os, b5.tape, b5.output, b5.size, b5.block⟩; have b50 := (hB4.out.below HB5.out hz4.out).cell 0; have b51 := (hB4.out.below HB5.out hz4.out).cell 1; have HG5 : Hid (∀ a, A5 = some a → w4.heap.size ≤ a.block ∧ a.block < w5.heap.size) := g5; have HR5 := Lib.hid r5; clear r5 b5 g5))
    all_goals
      have HFIN : Hid (Took p (if false = true then s else ⟨s.time, s.clocks, s.ps.eraseIdx k⟩) F to2 bs2 w (.returned (.tuple #[.int .i64 to2, .slice A5 bs2.length c5, .int .i64 0])) w5) :=
        ⟨A5, c5, F2, rfl, HR5.out, l5, m5, fun a ha => ⟨by have := (HG5.out a ha).1; have := hz4.out; omega, fun hf => by have := (HG5.out a ha).1; have := HREP.out.lt _ hf; omega, (HG5.out a ha).2⟩, HREP.out.kept (Kept.of_below (fun _ => False) HB5.out) (fun _ _ h => h), HKx.out.trans HGx.out ((Kept.of_below F2 HB5.out)), HGx.out⟩
      go_wp2_with fail
      go_ret3
      exact HFIN.out
  · go_enter Try.func20, Try.ntmps20
    go_wp2_with fail
    generalize w.alloc (.cells #[.int .i64 to2, .slice A bs2.length c] 64) = W1 at *
    have HREP : Hid (Rep 51 64 W1 p (if true = true then s else ⟨s.time, s.clocks, s.ps.eraseIdx k⟩) F) := hR1.out
    have HGx : Hid (Grew F F w) := Grew.refl F w
    have b0 := hB1.out.cell 0
    have b1 := hB1.out.cell 1
    have hcl := clone_any A c bs2 W1.drew hrd1.out (by omega)
    have HCL := Lib.hid hcl
    clear hcl
    go_region_law ((go_simp; go_at_call 33; refine HCL.out.mono ?_; rintro e w5 ⟨A5, c5, rfl, r5, l5, m5, g5, b5⟩; have HB5 : Hid (Below W1.heap.size W1 w5) := ⟨b5.os, b5.tape, b5.output, b5.size, b5.block⟩; have b50 := (hB1.out.below HB5.out (by have := hz1.out; omega)).cell 0; have b51 := (hB1.out.below HB5.out (by have := hz1.out; omega)).cell 1; have HG5 : Hid (∀ a, A5 = some a → W1.heap.size ≤ a.block ∧ a.block < w5.heap.size) := g5; have HR5 := Lib.hid r5; clear r5 b5 g5))
    all_goals
      have HFIN : Hid (Took p (if true = true then s else ⟨s.time, s.clocks, s.ps.eraseIdx k⟩) F to2 bs2 w (.returned (.tuple #[.int .i64 to2, .slice A5 bs2.length c5, .int .i64 0])) w5) :=
        ⟨A5, c5, F, rfl, HR5.out, l5, m5, fun a ha => ⟨by have := (HG5.out a ha).1; have := hz1.out; omega, fun hf => by have := (HG5.out a ha).1; have := HREP.out.lt _ hf; omega, (HG5.out a ha).2⟩, HREP.out.kept (Kept.of_below (fun _ => False) HB5.out) (fun _ _ h => h), hK1.out.trans HGx.out ((Kept.of_below F HB5.out)), HGx.out⟩
      go_wp2_with fail
      go_ret3
      exact HFIN.out
end Go.Proofs.Ytpljopocnlllcaa
