/- The program's digest. -/
import Derived.Test.YtleeacgimikdbaaDoorF
namespace Go.Proofs.YtleeacgimikdbaaDoor
open Go.RowKit
attribute [local go_sem] wval_add wval_xor wval_or wval_and wval_not wval_shr wval_shl
theorem conv_low (x : W32) (w : World) : (convert 42 5 (wval x)).run Tryd.prog w = .ok (.int .u8 ((lowByte x).toNat : Int)) w := by
  have h : (convert 42 5 (wval x)).run Tryd.prog w = .ok (.int .u8 (IntKind.u8.wrap (x.toNat : Int))) w := by kernel_rfl
  rw [h, wrap_u8]
  rfl
theorem index_st (s : St) (k : Nat) (h : k < 8) (w : World) : (Instr.index 43 (.agg #[wval s.a, wval s.b, wval s.c, wval s.d, wval s.e, wval s.f, wval s.g, wval s.h]) (.int .i64 (k : Int))).run Tryd.prog w = .ok (wval (s.words.getD k 0)) w := by
  obtain rfl | rfl | rfl | rfl | rfl | rfl | rfl | rfl : k = 0 ∨ k = 1 ∨ k = 2 ∨ k = 3 ∨ k = 4 ∨ k = 5 ∨ k = 6 ∨ k = 7 := by omega
  all_goals kernel_rfl
theorem info43 : (Tryd.prog.info? 43).map (·.size) = some 8 := by kernel_rfl
def lenV : Value → Nat
  | .slice _ n _ => n
  | _ => 0
theorem padded_div (bs : List UInt8) : ∃ m, (padded bs).length = 64 * m ∧ 0 < m := by
  rw [padded_length]
  unfold zerosOf
  exact ⟨(bs.length + (119 - bs.length % 64) % 64 + 9) / 64, by omega, by omega⟩
theorem blk_cells {p : List UInt8} {i j : Nat} (hj : j < 64) : bcell ((p.drop (64 * i)).take 64) j = bval (p.getD (64 * i + j) 0) := by
  unfold bcell
  congr 1
  rw [List.getD_eq_getElem?_getD, List.getD_eq_getElem?_getD, List.getElem?_take, if_pos hj, List.getElem?_drop]
set_option maxRecDepth 100000 in
set_option maxHeartbeats 1000000 in
theorem sum_any (A : Option Addr) (c : Nat) (bs : List UInt8) (w : World) (hr : Rd w A (bvals bs)) (hn : bs.length ≤ 1000000) (hk : HasK w) :
    Calls Tryd.prog 16 #[.slice A bs.length c] w fun e w' => ∃ v, e = .returned v ∧ w'.ownsRow w.heap.size 5 1 v 32 (bvals (sha bs)) ∧ Below w.heap.size w w' := by
  have hk1 := hk.1
  obtain ⟨m, hm, hm0⟩ := padded_div bs
  have hL : (padded bs).length ≤ 1000072 := by
    rw [padded_length]
    have : zerosOf bs.length ≤ 63 := by unfold zerosOf; omega
    omega
  generalize hp : padded bs = p at *
  go_enter Tryd.func16, Tryd.ntmps16
  go_wp2_with fail
  generalize hW : w.alloc _ = W1
  have hz1 : W1.heap.size = w.heap.size + 1 := by rw [← hW]; simp
  have hB1 : Blk W1 w.heap.size 43 init.cells := by rw [← hW]; exact heap_alloc_new w _
  have hb1 : Below w.heap.size w W1 := by rw [← hW]; exact (Below.refl _ _).alloc (Nat.le_refl _) _
  have hr1 : Rd W1 A (bvals bs) := by rw [← hW]; exact hr.alloc _
  clear hW
  refine (padded_any A c bs W1 hr1 hn).mono ?_
  rintro e W2 ⟨g, rfl, own2, bel2⟩
  rw [hp] at own2 ⊢
  have hgc : ∀ j, j < p.length → W2.cell? ⟨g, j, none⟩ = some (bval (p.getD j 0)) := fun j hj => by
    rw [own2.cellAt j (by omega), bvals_at p j hj]
  have hgl : w.heap.size < g ∧ g < W2.heap.size := by
    have := own2.lt g rfl
    omega
  have hB2 : Blk W2 w.heap.size 43 (stTo p 0).cells := hB1.below bel2 (by omega)
  have hb2 : Below w.heap.size w W2 := hb1.trans (bel2.mono (by omega))
  clear hB1 hb1 hr1 own2 bel2 hr
  have HP := Lib.hid hp
  have HM := Lib.hid hm
  have HK := Lib.hid hk
  have HZ := Lib.hid hz1
  clear hp hz1 hk
  have hlen : (p.length : Int) = 64 * (m : Int) := by omega
  go_wp2_with fail
  have HL := Lib.hid hlen
  clear hlen
  go_loopw [4] (fun v wr => ∃ i r : Nat, m = i + r ∧ ((0 < r ∧ v = .slice (some ⟨g, 64 * i, none⟩) (64 * r) (64 * r)) ∨ (r = 0 ∧ ∃ o, v = .slice (some ⟨g, o, none⟩) 0 0)) ∧ Blk wr w.heap.size 43 (stTo p i).cells ∧ (∀ j, j < 64 * m → wr.cell? ⟨g, j, none⟩ = some (bval (p.getD j 0))) ∧ g < wr.heap.size ∧ Below w.heap.size w wr) (fun v _ => lenV v)
  case atStart => exact ⟨0, m, by omega, .inl ⟨hm0, rfl⟩, hB2, by rw [← HM.out]; exact hgc, hgl.2, hb2⟩
  case round =>
    obtain ⟨i, r, hi, hv, hB, hgc, hgl2, hb⟩ := hrel
    rcases hv with ⟨hlt, rfl⟩ | ⟨rfl, o, rfl⟩
    · obtain ⟨r, rfl⟩ : ∃ q, r = q + 1 := ⟨r - 1, by omega⟩
      have HI := Lib.hid hi
      have hmx : 64 * (i + r + 1) ≤ 1000072 := by have := HM.out; omega
      have q0 : wr.cell? ⟨w.heap.size, 0, none⟩ = some (wval (stTo p i).a) := hB.cell 0
      have q1 : wr.cell? ⟨w.heap.size, 1, none⟩ = some (wval (stTo p i).b) := hB.cell 1
      have q2 : wr.cell? ⟨w.heap.size, 2, none⟩ = some (wval (stTo p i).c) := hB.cell 2
      have q3 : wr.cell? ⟨w.heap.size, 3, none⟩ = some (wval (stTo p i).d) := hB.cell 3
      have q4 : wr.cell? ⟨w.heap.size, 4, none⟩ = some (wval (stTo p i).e) := hB.cell 4
      have q5 : wr.cell? ⟨w.heap.size, 5, none⟩ = some (wval (stTo p i).f) := hB.cell 5
      have q6 : wr.cell? ⟨w.heap.size, 6, none⟩ = some (wval (stTo p i).g) := hB.cell 6
      have q7 : wr.cell? ⟨w.heap.size, 7, none⟩ = some (wval (stTo p i).h) := hB.cell 7
      have HB := Lib.hid hB
      have HG := Lib.hid hgc
      have HW := Lib.hid hb
      clear hi hB hgc hb hB2 hb2
      have c1 : (64 : Int) ≤ ((64 * (r + 1) : Nat) : Int) := by omega
      have c2 : 64 ≤ 64 * (r + 1) := by omega
      have c3 : (64 : Int) ≤ 64 * ((r : Int) + 1) := by omega
      go_wp2_with fail
      refine still_tail 3 (by kernel_rfl) (by kernel_rfl) ?_
      simp only [List.take_succ_cons, List.take_zero, List.drop_succ_cons, List.drop_zero]
      repeat still_step
      refine wpStill_nil ?_
      go_wp2_with fail
      refine (mix_any (stTo p i) g (64 * i) (64 * (r + 1)) ((p.drop (64 * i)).take 64) wr.drew ?l1 ?l2 ?l3 ?l4 ?l5 ?l6).mono ?_
      case l1 => rw [List.length_take, List.length_drop, HM.out, HI.out]; omega
      case l2 => omega
      case l3 => unfold maxLen; omega
      case l4 => exact hgl2
      case l5 => exact fun j hj => by rw [blk_cells hj]; exact HG.out _ (by have := HI.out; omega)
      case l6 => exact ⟨Nat.lt_of_lt_of_le hk1 HW.out.size, fun t ht => (HW.out.cell (p := ⟨0, t, none⟩) hk1).trans (HK.out.2 t ht)⟩
      rintro e W3 ⟨he, hb3d⟩
      have hb3 : Below wr.heap.size wr W3 := ⟨hb3d.os, hb3d.tape, hb3d.output, hb3d.size, hb3d.block⟩
      clear hb3d
      rw [show blockOf (stTo p i) ((p.drop (64 * i)).take 64) = stTo p (i + 1) from rfl] at he
      subst he
      have hB3 : Blk W3 w.heap.size 43 (stTo p i).cells := HB.out.below hb3 HB.out.lt
      have hG3 : ∀ j, j < 64 * m → W3.cell? ⟨g, j, none⟩ = some (bval (p.getD j 0)) := fun j hj => (hb3.cell (p := ⟨g, j, none⟩) hgl2).trans (HG.out j hj)
      have hW3 : Below w.heap.size w W3 := HW.out.trans (hb3.mono HW.out.size)
      have hs3 : wr.heap.size ≤ W3.heap.size := hb3.size
      clear HB HG HW hb3 q0 q1 q2 q3 q4 q5 q6 q7
      have HB := Lib.hid hB3
      have HG := Lib.hid hG3
      have HW := Lib.hid hW3
      clear hB3 hG3 hW3
      have hst : (stTo p (i + 1)).cells.length = 8 := rfl
      have hone : ∀ u ∈ (stTo p (i + 1)).cells, u.oneCell' = true := by
        intro u hu
        simp [St.cells] at hu
        rcases hu with rfl | rfl | rfl | rfl | rfl | rfl | rfl | rfl <;> rfl
      have HO := Lib.hid hone
      clear hst hone
      generalize hsv : stTo p (i + 1) = sv at *
      have HSV := Lib.hid hsv
      clear hsv
      have hi8 : Hid ((Tryd.prog.info? 43).map (·.size) = some sv.cells.length) := by
        have e : sv.cells.length = 8 := rfl
        rw [e]
        exact info43
      have ho8 : Hid ((stTo p i).cells.length = sv.cells.length) := by simp [St.cells, Hid]
      by_cases hr0 : r = 0
      · subst hr0
        go_wp2_with ((with_reducible show wpList _ _ _ (Oper.mk _ (.store 43 _ _) _ _ _ _ :: _) _ _); (refine wpl_store_blk rfl 43 _ _ rfl w.heap.size 43 (stTo p i).cells sv.cells HB.out (by rfl) (by rfl) hi8.out ho8.out HO.out ?_); intro W4 hB4 hg4 hs4)
        go_roundw
        case rel =>
          refine ⟨i + 1, 0, by have := HI.out; omega, .inr ⟨rfl, _, rfl⟩, ?_, ?_, ?_, ?_⟩
          · rw [HSV.out]; exact hB4
          · exact fun j hj => (hg4.cell (HG.out j hj) (by simp; omega))
          · rw [hs4]; omega
          · exact HW.out.grown hg4 HW.out.size (by simp)
        case measure => simp [lenV]
      · go_wp2_with ((with_reducible show wpList _ _ _ (Oper.mk _ (.store 43 _ _) _ _ _ _ :: _) _ _); (refine wpl_store_blk rfl 43 _ _ rfl w.heap.size 43 (stTo p i).cells sv.cells HB.out (by rfl) (by rfl) hi8.out ho8.out HO.out ?_); intro W4 hB4 hg4 hs4)
        go_roundw
        case rel => 
          refine ⟨i + 1, r, by have := HI.out; omega, .inl ⟨by omega, ?_⟩, ?_, ?_, ?_, ?_⟩
          · rw [show 64 * (r + 1) - 64 = 64 * r by omega, show 64 * (i + 1) = 64 * i + 64 by omega]
          · rw [HSV.out]; exact hB4
          · exact fun j hj => (hg4.cell (HG.out j hj) (by simp; omega))
          · rw [hs4]; omega
          · exact HW.out.grown hg4 HW.out.size (by simp)
        case measure => simp [lenV]; omega
    · obtain rfl : m = i := by omega
      have HB := Lib.hid hB
      have HW := Lib.hid hb
      have q0 : wr.cell? ⟨w.heap.size, 0, none⟩ = some (wval (stTo p m).a) := hB.cell 0
      have q1 : wr.cell? ⟨w.heap.size, 1, none⟩ = some (wval (stTo p m).b) := hB.cell 1
      have q2 : wr.cell? ⟨w.heap.size, 2, none⟩ = some (wval (stTo p m).c) := hB.cell 2
      have q3 : wr.cell? ⟨w.heap.size, 3, none⟩ = some (wval (stTo p m).d) := hB.cell 3
      have q4 : wr.cell? ⟨w.heap.size, 4, none⟩ = some (wval (stTo p m).e) := hB.cell 4
      have q5 : wr.cell? ⟨w.heap.size, 5, none⟩ = some (wval (stTo p m).f) := hB.cell 5
      have q6 : wr.cell? ⟨w.heap.size, 6, none⟩ = some (wval (stTo p m).g) := hB.cell 6
      have q7 : wr.cell? ⟨w.heap.size, 7, none⟩ = some (wval (stTo p m).h) := hB.cell 7
      have HS : Hid (sha bs = (stTo p m).words.flatMap bytesOf) := by
        unfold Hid sha
        rw [HP.out, HM.out, Nat.mul_div_cancel_left _ (by decide)]
      clear hi hB hgc hb hB2 hb2
      generalize stTo p m = s at *
      go_wp2_with fail
      clear q0 q1 q2 q3 q4 q5 q6 q7
      obtain ⟨wo, rfl⟩ : ∃ wo : World, wo = wr := ⟨_, rfl⟩
      go_loopw [5, 21] (fun v i wx => ∃ k : Nat, k ≤ 8 ∧ i = .int .i64 (k : Int) ∧ wx.ownsRow w.heap.size 5 1 v (4 * k) (bvals ((s.words.take k).flatMap bytesOf)) ∧ Below w.heap.size w wx) (fun _ i _ => 8 - (intOf i).toNat)
      case atStart => exact ⟨0, by omega, rfl, World.ownsRow_nil _ _ _ _, HW.out⟩
      case round =>
        obtain ⟨k, hk8, rfl, hown, hb⟩ := hrel
        by_cases hk : k < 8
        · have hix := index_st s k hk
          have hcv := conv_low
          have hx : Hid ((s.words.take (k + 1)).flatMap bytesOf = (s.words.take k).flatMap bytesOf ++ bytesOf (s.words.getD k 0)) := by
            unfold Hid
            have hl : s.words.length = 8 := rfl
            rw [List.take_succ_eq_append_getElem (by omega), List.flatMap_append, List.getD_eq_getElem?_getD, List.getElem?_eq_getElem (by omega)]
            simp
          generalize s.words.getD k 0 = x at *
          have HO := Lib.hid hown
          have HV := Lib.hid hb
          clear hown hb
          go_wp2_with (at_builtin; obtain ⟨v5, w5, hrun5, own5, grow5, at5⟩ := app_own byteE 22 (HO.out.alloc (.cells #[.int .u8 ((lowByte (x >>> 24)).toNat : Int), .int .u8 ((lowByte (x >>> 16)).toNat : Int), .int .u8 ((lowByte (x >>> 8)).toNat : Int), .int .u8 ((lowByte x).toNat : Int)] 5)) (A := some ⟨wr.heap.size, 0, none⟩) (news := bvals (bytesOf x)) 4 4 (Rd.of_blk (cs := bvals (bytesOf x)) (Blk.new wr 5 _) 0) rfl (bvals_one _) (by omega) (by unfold maxLen; omega) (by simp; exact Nat.le_succ_of_le HV.out.size); refine wpl_append rfl (.tmp 24) (.tmp 36) 22 22 rfl _ _ rfl rfl hrun5 ?_)
          go_roundw
          case rel =>
            refine ⟨k + 1, by omega, by go_num, ?_, ?_⟩
            · rw [hx.out, bvals_append]; exact own5
            · exact (HV.out.alloc HV.out.size _).grown grow5 (by simp; exact Nat.le_succ_of_le HV.out.size) (fun q hq => (HO.out.lt q hq).1)
          case measure => simp [intOf]; omega
        · obtain rfl : k = 8 := by omega
          go_wp2
          go_ret
          refine ⟨_, rfl, ?_, hb⟩
          rw [HS.out]
          have e : s.words.take 8 = s.words := rfl
          rw [e] at hown
          exact hown
end Go.Proofs.YtleeacgimikdbaaDoor
