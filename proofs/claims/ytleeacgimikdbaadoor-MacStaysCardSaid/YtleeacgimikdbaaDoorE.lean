/- A state behind a block. -/
import Derived.Test.YtleeacgimikdbaaDoorD
namespace Go.Proofs.YtleeacgimikdbaaDoor
open Go.RowKit
attribute [local go_sem] wval_add wval_xor wval_or wval_and wval_not wval_shr wval_shl
def St.cells (s : St) : List Value := [wval s.a, wval s.b, wval s.c, wval s.d, wval s.e, wval s.f, wval s.g, wval s.h]
/-- The program's table of constants lies in block 0. -/
def HasK (w : World) : Prop := 0 < w.heap.size ∧ ∀ t, t < 64 → w.cell? ⟨0, t, none⟩ = some (wval (kList.getD t 0))
set_option maxRecDepth 100000 in
set_option maxHeartbeats 2000000 in
theorem mix_any (s : St) (b off c : Nat) (bs : List UInt8) (w : World) (hl : bs.length = 64) (hc : 64 ≤ c) (hcm : c ≤ maxLen) (hb : b < w.heap.size)
    (hr : ∀ j, j < 64 → w.cell? ⟨b, off + j, none⟩ = some (bcell bs j)) (hk : HasK w) :
    Calls Tryd.prog 31 #[.agg s.cells.toArray, .slice (some ⟨b, off, none⟩) 64 c] w fun e w' => e = .returned (.agg (blockOf s bs).cells.toArray) ∧ Below w.heap.size w w' := by
  have hk1 := hk.1
  have hcm' := hcm
  unfold St.cells
  go_enter Tryd.func31, Tryd.ntmps31
  go_wp2
  generalize hW1 : ((w.alloc _).alloc _) = W1
  have hz : W1.heap.size = w.heap.size + 2 := by rw [← hW1]; simp
  have hB0 : Blk W1 w.heap.size 43 s.cells := by rw [← hW1]; exact (Below.heap_alloc _ _ _ (by simp)).trans (heap_alloc_new w _)
  have hB1 : Blk W1 (w.heap.size + 1) 43 (List.replicate 8 (wval 0#32)) := by
    rw [← hW1]
    exact Blk.new2 w _ _ _
  have hbel : Below w.heap.size w W1 := by rw [← hW1]; exact ((Below.refl _ _).alloc (Nat.le_refl _) _).alloc (by simp) _
  clear hW1
  have q0 : W1.cell? ⟨w.heap.size, 0, none⟩ = some (wval s.a) := hB0.cell 0
  have q1 : W1.cell? ⟨w.heap.size, 1, none⟩ = some (wval s.b) := hB0.cell 1
  have q2 : W1.cell? ⟨w.heap.size, 2, none⟩ = some (wval s.c) := hB0.cell 2
  have q3 : W1.cell? ⟨w.heap.size, 3, none⟩ = some (wval s.d) := hB0.cell 3
  have q4 : W1.cell? ⟨w.heap.size, 4, none⟩ = some (wval s.e) := hB0.cell 4
  have q5 : W1.cell? ⟨w.heap.size, 5, none⟩ = some (wval s.f) := hB0.cell 5
  have q6 : W1.cell? ⟨w.heap.size, 6, none⟩ = some (wval s.g) := hB0.cell 6
  have q7 : W1.cell? ⟨w.heap.size, 7, none⟩ = some (wval s.h) := hB0.cell 7
  have HZ := Lib.hid hz
  clear hz
  refine still_lit (by kernel_rfl) (by kernel_rfl) ?_
  repeat still_step
  refine wpStill_nil ?_
  clear q0 q1 q2 q3 q4 q5 q6 q7
  generalize hW2 : W1.drew = W2
  have gB0 : Blk W2 w.heap.size 43 s.cells := by rw [← hW2]; exact hB0
  have gB1 : Blk W2 (w.heap.size + 1) 43 (List.replicate 8 (wval 0#32)) := by rw [← hW2]; exact hB1
  have gbel : Below w.heap.size w W2 := by rw [← hW2]; exact hbel.drew
  have hz : W2.heap.size = w.heap.size + 2 := by rw [← hW2]; exact HZ.out
  clear hW2 HZ hB0 hB1 hbel
  have HZ := Lib.hid hz
  clear hz
  go_wp2_with fail
  refine (row_any b off c bs _ hl hc hcm' (by have := HZ.out; omega) ?_).mono ?_
  · exact fun j hj => (gbel.cell (p := ⟨b, off + j, none⟩) hb).trans (hr j hj)
  rintro e W3 ⟨rfl, hrow, hbel3⟩
  rw [HZ.out] at hrow hbel3 ⊢
  have hB0 : Blk W3 w.heap.size 43 s.cells := (hbel3.block _ (by omega)).trans gB0
  have hB1 : Blk W3 (w.heap.size + 1) 43 (List.replicate 8 (wval 0#32)) := (hbel3.block _ (by omega)).trans gB1
  have hbel : Below w.heap.size w W3 := gbel.trans (hbel3.mono (by omega))
  have hk3 : ∀ t, t < 64 → W3.cell? ⟨0, t, none⟩ = some (wval (kList.getD t 0)) := fun t ht => (hbel.cell (p := ⟨0, t, none⟩) hk1).trans (hk.2 t ht)
  clear gB0 gB1 gbel hbel3 HZ
  have HB0 := Lib.hid hB0
  have HB1 := Lib.hid hB1
  have HB := Lib.hid hbel
  have HR := Lib.hid hrow
  have HK := Lib.hid hk3
  clear hB0 hB1 hbel hrow hk3 hr hk
  go_wp2_with fail
  go_loopw [5, 6, 7, 8, 9, 10, 11, 12, 36] (fun a b c d e f g h i wr => ∃ t : Nat, t ≤ 64 ∧ i = .int .i64 t ∧ a = wval (roundsTo s (rowTo bs 64) t).a ∧ b = wval (roundsTo s (rowTo bs 64) t).b ∧ c = wval (roundsTo s (rowTo bs 64) t).c ∧ d = wval (roundsTo s (rowTo bs 64) t).d ∧ e = wval (roundsTo s (rowTo bs 64) t).e ∧ f = wval (roundsTo s (rowTo bs 64) t).f ∧ g = wval (roundsTo s (rowTo bs 64) t).g ∧ h = wval (roundsTo s (rowTo bs 64) t).h ∧ Below W3.heap.size W3 wr) (fun _ _ _ _ _ _ _ _ i _ => 64 - (intOf i).toNat)
  case atStart => exact ⟨0, by omega, rfl, rfl, rfl, rfl, rfl, rfl, rfl, rfl, rfl, Below.refl _ _⟩
  case round =>
    obtain ⟨t, ht, rfl, rfl, rfl, rfl, rfl, rfl, rfl, rfl, rfl, hb3⟩ := hrel
    have hlt3 := HR.out.lt
    by_cases hlt : t < 64
    · have c0 : wr.cell? ⟨w.heap.size + 2, t, none⟩ = some (wval ((rowTo bs 64).getD t 0)) := by
        rw [hb3.cell (p := ⟨w.heap.size + 2, t, none⟩) hlt3, HR.out.cell, List.getElem?_map, List.getD_eq_getElem?_getD, List.getElem?_eq_getElem (by rw [rowTo_length]; exact hlt)]
        rfl
      have c1 : wr.cell? ⟨0, t, none⟩ = some (wval (kList.getD t 0)) := (hb3.cell (p := ⟨0, t, none⟩) (show 0 < _ by omega)).trans (HK.out t hlt)
      have hnext : roundsTo s (rowTo bs 64) (t + 1) = (roundsTo s (rowTo bs 64) t).round (kList.getD t 0) ((rowTo bs 64).getD t 0) := rfl
      generalize (rowTo bs 64).getD t 0 = wt at c0 hnext
      generalize kList.getD t 0 = kt at c1 hnext
      generalize hv1 : roundsTo s (rowTo bs 64) (t + 1) = v1 at hnext
      generalize roundsTo s (rowTo bs 64) t = v at hnext ⊢
      obtain ⟨va, vb, vc, vd, ve, vf, vg, vh⟩ := v
      have HN := Lib.hid hnext
      have HV := Lib.hid hv1
      have H3 := Lib.hid hb3
      clear hnext hv1 hb3
      have hx : vh + (rotr ve 6 ^^^ rotr ve 11 ^^^ rotr ve 25) + (ve &&& vf ^^^ ~~~ve &&& vg) + kt + wt = St.x ⟨va, vb, vc, vd, ve, vf, vg, vh⟩ kt wt := rfl
      have hy : (rotr va 2 ^^^ rotr va 13 ^^^ rotr va 22) + (va &&& vb ^^^ va &&& vc ^^^ vb &&& vc) = St.y ⟨va, vb, vc, vd, ve, vf, vg, vh⟩ := rfl
      have e4 : (t : Int) < 64 := by omega
      have e5 : (0 : Int) ≤ (t : Int) := by omega
      go_wp2_with fail
      refine still_lit (by kernel_rfl) (by kernel_rfl) ?_
      repeat (first | still_step | still_call (turned_any _ _ _ (by omega) (by omega)))
      refine wpStill_nil ?_
      go_outline
      go_wp2_with (go_at_call 38; refine (turned_any _ _ _ (by omega) (by omega)).mono ?_; rintro e w' ⟨rfl, rfl⟩)
      go_roundw
      case rel =>
        refine ⟨t + 1, by omega, by go_num, ?_⟩
        rw [HV.out, HN.out]
        exact ⟨rfl, rfl, rfl, rfl, rfl, rfl, rfl, rfl, H3.out.drew⟩
      case measure => simp [intOf]; omega
    · obtain rfl : t = 64 := by omega
      have gB0 : Blk wr w.heap.size 43 s.cells := (hb3.block _ (by omega)).trans HB0.out
      have gB1 : Blk wr (w.heap.size + 1) 43 (List.replicate 8 (wval 0#32)) := (hb3.block _ (by omega)).trans HB1.out
      have q0 : wr.cell? ⟨w.heap.size, 0, none⟩ = some (wval s.a) := gB0.cell 0
      have q1 : wr.cell? ⟨w.heap.size, 1, none⟩ = some (wval s.b) := gB0.cell 1
      have q2 : wr.cell? ⟨w.heap.size, 2, none⟩ = some (wval s.c) := gB0.cell 2
      have q3 : wr.cell? ⟨w.heap.size, 3, none⟩ = some (wval s.d) := gB0.cell 3
      have q4 : wr.cell? ⟨w.heap.size, 4, none⟩ = some (wval s.e) := gB0.cell 4
      have q5 : wr.cell? ⟨w.heap.size, 5, none⟩ = some (wval s.f) := gB0.cell 5
      have q6 : wr.cell? ⟨w.heap.size, 6, none⟩ = some (wval s.g) := gB0.cell 6
      have q7 : wr.cell? ⟨w.heap.size, 7, none⟩ = some (wval s.h) := gB0.cell 7
      have HG := Lib.hid gB1
      have H3 := Lib.hid hb3
      have HE : Hid (blockOf s bs = s.plus (roundsTo s (rowTo bs 64) 64)) := rfl
      clear gB0 gB1 hb3 hlt3 hlt
      generalize roundsTo s (rowTo bs 64) 64 = v at *
      have hi : (Tryd.prog.info? 43).map (·.size) = some 8 := by kernel_rfl
      go_wp2_with ((with_reducible refine build_as rfl 43 _ rfl (s.plus v).cells.toArray ?hf ?_); (case hf => kernel_rfl); (simp only [Act.put, List.setIfInBounds_toArray, List.set_cons_zero, List.set_cons_succ]); (refine wpList_store_row rfl 43 _ _ rfl (w.heap.size + 1) (s.plus v).cells.toArray ?hx ?hy 43 ?old ?hg ?hi ?hold ?h1 ?_); (case old => exact (List.replicate 8 (wval 0#32)).toArray); (case hg => exact HG.out); (case hi => exact hi); (case hx => kernel_rfl); (case hy => kernel_rfl); (case hold => simp [St.cells]); (case h1 => kernel_rfl))
      try simp only [Exit.inBlock, Exit.then]
      refine bodyPost_ret (v := .agg (s.plus v).cells.toArray) ?_ rfl ?_
      · exact results_cell_row (p := 4) (ty := 43) (by kernel_rfl) _ _ (w.heap.size + 1) 43 _ (0, 0) _ (by kernel_rfl) (setRow_heap _ _ _ _ _ _ HG.out) Tryd.underlying43 (by rfl) hi
      · refine ⟨by rw [HE.out]; rfl, ?_⟩
        have := HG.out.lt
        exact below_setRow (HB.out.trans (H3.out.mono (by have := HR.out.lt; omega))) (by omega) _
end Go.Proofs.YtleeacgimikdbaaDoor
