/- The reference's block. -/
import Derived.Test.YtleeacgimikdbaaDoorR3
namespace Go.Proofs.YtleeacgimikdbaaDoor
open Go.RowKit
attribute [local go_sem ↓] Go.wp_at_zero Go.wp_at_succ
theorem own_base {w : World} {b b' : Nat} {e : TypeId} {size : Nat} {v : Value} {n : Nat} {xs : List Value} (h : w.ownsRow b e size v n xs) (hb : b' ≤ b) : w.ownsRow b' e size v n xs := by
  refine ⟨h.1, ?_⟩
  rcases h.2 with h | ⟨g, cap, cur, h1, h2, h3⟩
  · exact .inl h
  · exact .inr ⟨g, cap, cur, h1, Nat.le_trans hb h2, h3⟩
theorem wrap64_wn (x : W32) : wrap64 (wn x) = wn x := by
  have := wn_bd x
  unfold wrap64
  omega
attribute [local go_sem] wn_xor wn_and wn_not wrap64_wn
set_option maxRecDepth 100000 in
set_option maxHeartbeats 4000000 in
theorem rblock_any (s : St) (b off c gs os cs : Nat) (bs : List UInt8) (w : World) (_hl : bs.length = 64) (hb : b < w.heap.size) (hgs : gs < w.heap.size)
    (hr : ∀ j, j < 64 → w.cell? ⟨b, off + j, none⟩ = some (bcell bs j)) (hs : ∀ j, j < 8 → w.cell? ⟨gs, os + j, none⟩ = some (wcell (s.words.getD j 0))) :
    Calls Tryd.prog 32 #[.slice (some ⟨gs, os, none⟩) 8 cs, .slice (some ⟨b, off, none⟩) 64 c] w fun e w' => ∃ v, e = .returned v ∧ w'.ownsRow w.heap.size 3 1 v 8 (wcells (blockOf s bs).words) ∧ Below w.heap.size w w' := by
  go_enter Tryd.func32, Tryd.ntmps32
  go_wp2_with fail
  go_loopw [5, 6] (fun v i wr => ∃ t : Nat, t ≤ 16 ∧ i = .int .i64 (t : Int) ∧ wr.ownsRow w.heap.size 3 1 v t (wcells (rowTo bs t)) ∧ Below w.heap.size w wr) (fun _ i _ => 16 - (intOf i).toNat)
  case atStart => exact ⟨0, by omega, rfl, World.ownsRow_nil _ _ _ _, Below.refl _ _⟩
  case round =>
    obtain ⟨t, ht, rfl, hown, hbel⟩ := hrel
    have hrr : ∀ j, j < 64 → wr.cell? ⟨b, off + j, none⟩ = some (bcell bs j) := fun j hj => (hbel.cell (p := ⟨b, off + j, none⟩) hb).trans (hr j hj)
    by_cases hlt : t < 16
    · have hne : Hid (some b ≠ u5.ownBlock) := fun h => by
        have := (hown.lt b h.symm).1
        omega
      have c0 := hrr (4 * t) (by omega)
      have c1 := hrr (4 * t + 1) (by omega)
      have c2 := hrr (4 * t + 2) (by omega)
      have c3 := hrr (4 * t + 3) (by omega)
      have hsum := wordAt_wn bs t
      have hnx : nextW bs (rowTo bs t) t = wordAt bs t := by unfold nextW; rw [if_pos hlt]
      have HX := Lib.hid hnx
      clear hnx
      unfold bcell bval at c0 c1 c2 c3
      have y0b := u8_lt (bs.getD (4 * t) 0)
      have y1b := u8_lt (bs.getD (4 * t + 1) 0)
      have y2b := u8_lt (bs.getD (4 * t + 2) 0)
      have y3b := u8_lt (bs.getD (4 * t + 3) 0)
      obtain ⟨y0, hy0⟩ : ∃ y : Int, y = ((bs.getD (4 * t) 0).toNat : Int) := ⟨_, rfl⟩
      obtain ⟨y1, hy1⟩ : ∃ y : Int, y = ((bs.getD (4 * t + 1) 0).toNat : Int) := ⟨_, rfl⟩
      obtain ⟨y2, hy2⟩ : ∃ y : Int, y = ((bs.getD (4 * t + 2) 0).toNat : Int) := ⟨_, rfl⟩
      obtain ⟨y3, hy3⟩ : ∃ y : Int, y = ((bs.getD (4 * t + 3) 0).toNat : Int) := ⟨_, rfl⟩
      rw [← hy0] at c0 hsum
      rw [← hy1] at c1 hsum
      rw [← hy2] at c2 hsum
      rw [← hy3] at c3 hsum
      have z0 : 0 ≤ y0 ∧ y0 < 256 := by omega
      have z1 : 0 ≤ y1 ∧ y1 < 256 := by omega
      have z2 : 0 ≤ y2 ∧ y2 < 256 := by omega
      have z3 : 0 ≤ y3 ∧ y3 < 256 := by omega
      clear hy0 hy1 hy2 hy3 y0b y1b y2b y3b hrr hr
      generalize wordAt bs t = x at *
      have i0 : IntKind.i64.wrap (4 * (t : Int)) = 4 * (t : Int) := IntWalk.i64_in _ (by omega)
      have i1 : IntKind.i64.wrap (4 * (t : Int) + 1) = 4 * (t : Int) + 1 := IntWalk.i64_in _ (by omega)
      have i2 : IntKind.i64.wrap (4 * (t : Int) + 2) = 4 * (t : Int) + 2 := IntWalk.i64_in _ (by omega)
      have i3 : IntKind.i64.wrap (4 * (t : Int) + 3) = 4 * (t : Int) + 3 := IntWalk.i64_in _ (by omega)
      have n0 : (4 * (t : Int)).toNat = 4 * t := by omega
      have n1 : (4 * (t : Int) + 1).toNat = 4 * t + 1 := by omega
      have n2 : (4 * (t : Int) + 2).toNat = 4 * t + 2 := by omega
      have n3 : (4 * (t : Int) + 3).toNat = 4 * t + 3 := by omega
      have p0 : (0 : Int) ≤ 4 * (t : Int) := by omega
      have p1 : (0 : Int) ≤ 4 * (t : Int) + 1 := by omega
      have p2 : (0 : Int) ≤ 4 * (t : Int) + 2 := by omega
      have p3 : (0 : Int) ≤ 4 * (t : Int) + 3 := by omega
      have q0 : 4 * (t : Int) < 64 := by omega
      have q1 : 4 * (t : Int) + 1 < 64 := by omega
      have q2 : 4 * (t : Int) + 2 < 64 := by omega
      have q3 : 4 * (t : Int) + 3 < 64 := by omega
      have v0 : IntKind.i64.wrap y0 = y0 := IntWalk.i64_in _ (by omega)
      have v1 : IntKind.i64.wrap y1 = y1 := IntWalk.i64_in _ (by omega)
      have v2 : IntKind.i64.wrap y2 = y2 := IntWalk.i64_in _ (by omega)
      have v3 : IntKind.i64.wrap y3 = y3 := IntWalk.i64_in _ (by omega)
      have m0 : IntKind.i64.wrap (16777216 * y0) = 16777216 * y0 := IntWalk.i64_in _ (by omega)
      have m1 : IntKind.i64.wrap (65536 * y1) = 65536 * y1 := IntWalk.i64_in _ (by omega)
      have m2 : IntKind.i64.wrap (256 * y2) = 256 * y2 := IntWalk.i64_in _ (by omega)
      have s1 : IntKind.i64.wrap (16777216 * y0 + 65536 * y1) = 16777216 * y0 + 65536 * y1 := IntWalk.i64_in _ (by omega)
      have s2 : IntKind.i64.wrap (16777216 * y0 + 65536 * y1 + 256 * y2) = 16777216 * y0 + 65536 * y1 + 256 * y2 := IntWalk.i64_in _ (by omega)
      have s3 : IntKind.i64.wrap (16777216 * y0 + 65536 * y1 + 256 * y2 + y3) = wn x := by rw [← hsum]; exact IntWalk.i64_in _ (by omega)
      clear z0 z1 z2 z3 hsum
      have HO := Lib.hid hown
      have HV := Lib.hid hbel
      clear hown hbel
      have C0 := Lib.hid c0
      have C1 := Lib.hid c1
      have C2 := Lib.hid c2
      have C3 := Lib.hid c3
      go_wp2_with fail
      go_region_held3 (fun w' => w'.cell? ⟨b, off + 4 * t, none⟩ = some (.int .u8 y0) ∧ w'.cell? ⟨b, off + (4 * t + 1), none⟩ = some (.int .u8 y1) ∧ w'.cell? ⟨b, off + (4 * t + 2), none⟩ = some (.int .u8 y2) ∧ w'.cell? ⟨b, off + (4 * t + 3), none⟩ = some (.int .u8 y3)) (first | go_keep | exact ⟨cell_app grow5 C0.out hne.out, cell_app grow5 C1.out hne.out, cell_app grow5 C2.out hne.out, cell_app grow5 C3.out hne.out⟩) ((obtain ⟨v5, w5, hrun5, own5, grow5, at5⟩ := app_own (w := (wr.alloc (.cells #[.int .i64 (wn x)] 3)).drew) intE 46 (HO.out.alloc _) (A := some ⟨wr.heap.size, 0, none⟩) (news := wcells [x]) 1 1 ((Rd.of_blk (cs := wcells [x]) (Blk.new wr 3 _) 0).drew) rfl (wcells_one _) (by omega) (by unfold maxLen; omega) (by simp; exact Nat.le_succ_of_le HV.out.size); refine step_append (by rfl) (.tmp 23) (.tmp 57) 46 46 (by rfl) _ _ (by rfl) (by rfl) hrun5 ?_))
      go_wp2
      go_roundw
      case rel =>
        refine ⟨t + 1, by omega, by go_num, ?_, (HV.out.alloc HV.out.size _).drew.grown grow5 (by simp; exact Nat.le_succ_of_le HV.out.size) (fun q hq => (HO.out.lt q hq).1)⟩
        show w5.ownsRow w.heap.size 3 1 v5 (t + 1) (wcells (rowTo bs t ++ [nextW bs (rowTo bs t) t]))
        rw [wcells_append, HX.out]
        exact own5
      case measure => simp [intOf]; omega
    · have ht16 : Hid (t = 16) := by unfold Hid; omega
      clear hrr
      go_wp2_with fail
      obtain ⟨wo, rfl⟩ : ∃ wo : World, wo = wr := ⟨_, rfl⟩
      go_loopw [5, 7, 8, 9] (fun v i _ _ wr => ∃ t : Nat, 16 ≤ t ∧ t ≤ 64 ∧ i = .int .i64 (t : Int) ∧ wr.ownsRow w.heap.size 3 1 v t (wcells (rowTo bs t)) ∧ Below w.heap.size w wr) (fun _ i _ _ _ => 64 - (intOf i).toNat)
      case atStart =>
        refine ⟨16, by omega, by omega, by first | rfl | (rw [← ht16.out]), ?_, hbel⟩
        rw [ht16.out] at hown
        exact hown
      case round =>
        clear hown hbel ht hlt ht16
        obtain ⟨t, ht0, ht, rfl, hown, hbel⟩ := hrel
        by_cases hlt : t < 64
        · obtain ⟨g, cap, hu5, hgb, hgl, hcap⟩ := own_form hown (by omega)
          subst hu5
          have hlen := rowTo_length bs t
          have hc : ∀ j, j < t → wr.cell? ⟨g, j, none⟩ = some (.int .i64 (wn ((rowTo bs t).getD j 0))) := fun j hj => by
            rw [hown.cellAt j (by omega), wcells_at _ _ (by omega)]
          have c16 := hc (t - 16) (by omega)
          have c15 := hc (t - 15) (by omega)
          have c7 := hc (t - 7) (by omega)
          have c2 := hc (t - 2) (by omega)
          have hnx : (rowTo bs t).getD (t - 16) 0 + (rowTo bs t).getD (t - 7) 0 + sg0 ((rowTo bs t).getD (t - 15) 0) + sg1 ((rowTo bs t).getD (t - 2) 0) = nextW bs (rowTo bs t) t := by
            unfold nextW
            rw [if_neg (by omega)]
          generalize (rowTo bs t).getD (t - 16) 0 = x16 at c16 hnx
          generalize (rowTo bs t).getD (t - 15) 0 = x15 at c15 hnx
          generalize (rowTo bs t).getD (t - 7) 0 = x7 at c7 hnx
          generalize (rowTo bs t).getD (t - 2) 0 = x2 at c2 hnx
          clear hc hlen
          have HX := Lib.hid hnx
          clear hnx
          have HO := Lib.hid hown
          have HV := Lib.hid hbel
          clear hown hbel
          have h0 : rotr x15 7 ^^^ rotr x15 18 ^^^ x15 >>> 3 = sg0 x15 := rfl
          have h1 : rotr x2 17 ^^^ rotr x2 19 ^^^ x2 >>> 10 = sg1 x2 := rfl
          have k16 : IntKind.i64.wrap ((t : Int) - 16) = (t : Int) - 16 := IntWalk.i64_in _ (by omega)
          have k15 : IntKind.i64.wrap ((t : Int) - 15) = (t : Int) - 15 := IntWalk.i64_in _ (by omega)
          have k7 : IntKind.i64.wrap ((t : Int) - 7) = (t : Int) - 7 := IntWalk.i64_in _ (by omega)
          have k2 : IntKind.i64.wrap ((t : Int) - 2) = (t : Int) - 2 := IntWalk.i64_in _ (by omega)
          have n16 : ((t : Int) - 16).toNat = t - 16 := by omega
          have n15 : ((t : Int) - 15).toNat = t - 15 := by omega
          have n7 : ((t : Int) - 7).toNat = t - 7 := by omega
          have n2 : ((t : Int) - 2).toNat = t - 2 := by omega
          have m16 : (16 : Int) ≤ (t : Int) := by omega
          have m15 : (15 : Int) ≤ (t : Int) := by omega
          have m7 : (7 : Int) ≤ (t : Int) := by omega
          have m2 : (2 : Int) ≤ (t : Int) := by omega
          have l16 : (t : Int) - 16 < (t : Int) := by omega
          have l15 : (t : Int) - 15 < (t : Int) := by omega
          have l7 : (t : Int) - 7 < (t : Int) := by omega
          have l2 : (t : Int) - 2 < (t : Int) := by omega
          have p16 : (0 : Int) ≤ (t : Int) - 16 := by omega
          have p15 : (0 : Int) ≤ (t : Int) - 15 := by omega
          have p7 : (0 : Int) ≤ (t : Int) - 7 := by omega
          have p2 : (0 : Int) ≤ (t : Int) - 2 := by omega
          go_wp2_with fail
          go_quiet ((first | (go_at_call 39; exact Calls.quiet_of (rturned_any _ _ _ (by omega) (by omega))) | (go_at_call 33; exact Calls.quiet_of_same (moved_any _ _ _ (by omega) (by omega)))))
          rename_i nq
          generalize hW : wr.drewN nq = W2
          have d16 : W2.cell? ⟨g, t - 16, none⟩ = some (.int .i64 (wn x16)) := by rw [← hW]; exact c16
          have d7 : W2.cell? ⟨g, t - 7, none⟩ = some (.int .i64 (wn x7)) := by rw [← hW]; exact c7
          have d2 : W2.cell? ⟨g, t - 2, none⟩ = some (.int .i64 (wn x2)) := by rw [← hW]; exact c2
          have ho2 : W2.ownsRow w.heap.size 3 1 (.slice (some ⟨g, 0, none⟩) t cap) t (wcells (rowTo bs t)) := by rw [← hW]; exact HO.out
          have hb2 : Below w.heap.size w W2 := by rw [← hW]; exact ⟨HV.out.os, HV.out.tape, HV.out.output, HV.out.size, HV.out.block⟩
          clear hW c16 c15 c7 c2 HO HV h0
          generalize sg0 x15 = a0 at *
          have HO := Lib.hid ho2
          have HV := Lib.hid hb2
          clear ho2 hb2
          go_wp2_with fail
          go_quiet ((first | (go_at_call 39; exact Calls.quiet_of (rturned_any _ _ _ (by omega) (by omega))) | (go_at_call 33; exact Calls.quiet_of_same (moved_any _ _ _ (by omega) (by omega)))))
          rename_i nq
          generalize hW : W2.drewN nq = W3
          have c16 : W3.cell? ⟨g, t - 16, none⟩ = some (.int .i64 (wn x16)) := by rw [← hW]; exact d16
          have c7 : W3.cell? ⟨g, t - 7, none⟩ = some (.int .i64 (wn x7)) := by rw [← hW]; exact d7
          have ho2 : W3.ownsRow w.heap.size 3 1 (.slice (some ⟨g, 0, none⟩) t cap) t (wcells (rowTo bs t)) := by rw [← hW]; exact HO.out
          have hb2 : Below w.heap.size w W3 := by rw [← hW]; exact ⟨HV.out.os, HV.out.tape, HV.out.output, HV.out.size, HV.out.block⟩
          clear hW d16 d7 d2 HO HV h1
          generalize sg1 x2 = a1 at *
          have hx16 := wn_bd x16
          have hx7 := wn_bd x7
          have ha0 := wn_bd a0
          have ha1 := wn_bd a1
          have s1 : IntKind.i64.wrap (wn x16 + wn a0) = wn x16 + wn a0 := IntWalk.i64_in _ (by omega)
          have s2 : IntKind.i64.wrap (wn x16 + wn a0 + wn x7) = wn x16 + wn a0 + wn x7 := IntWalk.i64_in _ (by omega)
          have s3 : IntKind.i64.wrap (wn x16 + wn a0 + wn x7 + wn a1) = wn x16 + wn a0 + wn x7 + wn a1 := IntWalk.i64_in _ (by omega)
          have hbd : 0 ≤ wn x16 + wn a0 + wn x7 + wn a1 ∧ wn x16 + wn a0 + wn x7 + wn a1 < 9223372036854775808 := by omega
          have hsum : BitVec.ofInt 32 (wn x16 + wn a0 + wn x7 + wn a1) = nextW bs (rowTo bs t) t := by
            rw [BitVec.ofInt_add, BitVec.ofInt_add, BitVec.ofInt_add, wn_ofInt, wn_ofInt, wn_ofInt, wn_ofInt, ← HX.out, BitVec.add_assoc x16 a0 x7, BitVec.add_comm a0 x7, ← BitVec.add_assoc]
          have HB := Lib.hid hbd
          have HSU := Lib.hid hsum
          clear hbd hx16 hx7 ha0 ha1 hsum HX
          have HO := Lib.hid ho2
          have HV := Lib.hid hb2
          clear ho2 hb2
          have hgl3 : Hid (g < W3.heap.size) := (HO.out.lt g rfl).2
          have C16 := Lib.hid c16
          have C7 := Lib.hid c7
          go_wp2_with fail
          go_region_held3 (fun w' => w'.cell? ⟨g, t - 16, none⟩ = some (.int .i64 (wn x16)) ∧ w'.cell? ⟨g, t - 7, none⟩ = some (.int .i64 (wn x7))) (first | go_keep | exact ⟨keep5 _ _ _ (.inr (by omega)) ((World.cell?_alloc_lt W3 _ _ hgl3.out).trans C16.out), keep5 _ _ _ (.inr (by omega)) ((World.cell?_alloc_lt W3 _ _ hgl3.out).trans C7.out)⟩) (first | ((go_at_call 40; refine (word_any _ _ HB.out.1 HB.out.2).mono ?_; rintro e w' ⟨rfl, rfl⟩)) | ((obtain ⟨v5, w5, hrun5, own5, grow5, at5, keep5⟩ := app_keep (w := (W3.alloc (.cells #[.int .i64 (wn (BitVec.ofInt 32 (wn x16 + wn a0 + wn x7 + wn a1)))] 3)).drew) intE 46 (HO.out.alloc _) (A := some ⟨W3.heap.size, 0, none⟩) (news := wcells [BitVec.ofInt 32 (wn x16 + wn a0 + wn x7 + wn a1)]) 1 1 ((Rd.of_blk (cs := wcells [BitVec.ofInt 32 (wn x16 + wn a0 + wn x7 + wn a1)]) (Blk.new W3 3 _) 0).drew) rfl (wcells_one _) (by omega) (by unfold maxLen; omega) (by simp; exact Nat.le_succ_of_le HV.out.size); refine step_append (by rfl) (.tmp 103) (.tmp 120) 46 46 (by rfl) _ _ (by rfl) (by rfl) hrun5 ?_)))
          go_wp2
          go_roundw
          case rel =>
            refine ⟨t + 1, by omega, by omega, by go_num, ?_, (HV.out.alloc HV.out.size _).drew.grown grow5 (by simp; exact Nat.le_succ_of_le HV.out.size) (fun q hq => (HO.out.lt q hq).1)⟩
            show w5.ownsRow w.heap.size 3 1 v5 (t + 1) (wcells (rowTo bs t ++ [nextW bs (rowTo bs t) t]))
            rw [wcells_append, ← HSU.out]
            exact own5
          case measure => simp [intOf]; omega
        · have ht16 : Hid (t = 64) := by unfold Hid; omega
          obtain ⟨g, cap, hu5, hgb, hgl, hcap⟩ := own_form hown (by omega)
          subst hu5
          have hxg : ∀ j, j < 64 → wr.cell? ⟨g, j, none⟩ = some (.int .i64 (wn ((rowTo bs 64).getD j 0))) := fun j hj => by
            rw [hown.cellAt j (by have := ht16.out; omega), ht16.out, wcells_at _ _ (by rw [rowTo_length]; exact hj)]
          have hsr : Rd wr (some ⟨gs, os, none⟩) (wcells s.words) := .inr ⟨gs, os, rfl, Nat.lt_of_lt_of_le hgs hbel.size, fun j u hu => by
            have hj : j < 8 := by
              have := (List.getElem?_eq_some_iff.1 hu).1
              simpa [wcells, St.words] using this
            rw [hbel.cell (p := ⟨gs, os + j, none⟩) hgs, hs j hj, ← hu, wcells_at _ _ (by simpa [St.words] using hj)]
            rfl⟩
          obtain ⟨v6, w6, hrun6, own6, grow6, at6⟩ := app_own intE 46 (World.ownsRow_nil wr wr.heap.size 3 1) 8 cs hsr (by rw [wcells_length]; rfl) (wcells_one _) (by omega) (by unfold maxLen; omega) (Nat.le_refl _)
          simp only [Nat.zero_add, List.nil_append] at own6
          have hb6 : Below wr.heap.size wr w6 := (Below.refl _ _).grown grow6 (Nat.le_refl _) (by simp [Value.ownBlock])
          have HO := Lib.hid own6
          have HV := Lib.hid (hbel.trans (hb6.mono hbel.size))
          have HX : Hid (∀ j, j < 64 → w6.cell? ⟨g, j, none⟩ = some (.int .i64 (wn ((rowTo bs 64).getD j 0)))) := fun j hj => (hb6.cell (p := ⟨g, j, none⟩) hgl).trans (hxg j hj)
          have HG : Hid (g < w6.heap.size) := Nat.lt_of_lt_of_le hgl hb6.size
          clear hown hbel hxg hsr own6 grow6 at6 hb6 ht ht0
          go_wp2_with (first
            | (at_builtin; refine wpl_append rfl (.tmp 122) (.tmp 123) 46 46 rfl _ _ rfl rfl hrun6 ?_)
            | (go_at_call 41; refine (words_any _).mono ?_; rintro e W4 ⟨rfl, hk, hb4⟩))
          clear hrun6
          obtain ⟨vb, vc, hv6, hvb, hvl, hvc⟩ := own_form HO.out (by omega)
          subst hv6
          have hv0 : Hid (∀ j, j < 8 → W4.cell? ⟨vb, j, none⟩ = some (wcell (s.words.getD j 0))) := fun j hj => by
            rw [hb4.cell (p := ⟨vb, j, none⟩) hvl, HO.out.cellAt j (by omega), wcells_at _ _ (by simpa [St.words] using hj)]
            rfl
          have hk4 : Hid (∀ j, j < 64 → W4.cell? ⟨w6.heap.size, j, none⟩ = some (.int .i64 (wn (kList.getD j 0)))) := fun j hj => by
            rw [hk.cell j, wcells_at _ _ (by simpa [kList] using hj)]
          have hx4 : Hid (∀ j, j < 64 → W4.cell? ⟨g, j, none⟩ = some (.int .i64 (wn ((rowTo bs 64).getD j 0)))) := fun j hj => (hb4.cell (p := ⟨g, j, none⟩) HG.out).trans (HX.out j hj)
          have hB4 : Hid (Below w.heap.size w W4) := HV.out.trans (hb4.mono HV.out.size)
          have hl4 : Hid (g < W4.heap.size ∧ w6.heap.size < W4.heap.size) := ⟨Nat.lt_of_lt_of_le HG.out hb4.size, hk.lt⟩
          generalize w6.heap.size = kb at *
          clear HO HV HX HG hk hb4 hvb hvl hvc
          go_loopw [10, 12, 13, 14, 15, 16] (fun v i _ _ _ _ wr => ∃ t : Nat, t ≤ 64 ∧ i = .int .i64 (t : Int) ∧ ∃ vb vc, v = .slice (some ⟨vb, 0, none⟩) 8 vc ∧ (∀ j, j < 8 → wr.cell? ⟨vb, j, none⟩ = some (wcell ((roundsTo s (rowTo bs 64) t).words.getD j 0))) ∧ Below W4.heap.size W4 wr) (fun _ i _ _ _ _ _ => 64 - (intOf i).toNat)
          case atStart => exact ⟨0, by omega, rfl, vb, vc, rfl, hv0.out, Below.refl _ _⟩
          case round =>
            clear hv0
            obtain ⟨t3, ht3, rfl, vb, vc, rfl, hv, hb3⟩ := hrel
            by_cases hlt3 : t3 < 64
            · have c0 := hb3.cell (p := ⟨g, t3, none⟩) hl4.out.1 |>.trans (hx4.out t3 hlt3)
              have c1 := hb3.cell (p := ⟨kb, t3, none⟩) hl4.out.2 |>.trans (hk4.out t3 hlt3)
              have hnext : roundsTo s (rowTo bs 64) (t3 + 1) = (roundsTo s (rowTo bs 64) t3).round (kList.getD t3 0) ((rowTo bs 64).getD t3 0) := rfl
              generalize (rowTo bs 64).getD t3 0 = wt at c0 hnext
              generalize kList.getD t3 0 = kt at c1 hnext
              generalize roundsTo s (rowTo bs 64) t3 = v at hnext hv
              obtain ⟨va, vb0, vc0, vd, ve, vf, vg, vh⟩ := v
              have q0 : wr.cell? ⟨vb, 0, none⟩ = some (.int .i64 (wn va)) := hv 0 (by omega)
              have q1 : wr.cell? ⟨vb, 1, none⟩ = some (.int .i64 (wn vb0)) := hv 1 (by omega)
              have q2 : wr.cell? ⟨vb, 2, none⟩ = some (.int .i64 (wn vc0)) := hv 2 (by omega)
              have q3 : wr.cell? ⟨vb, 3, none⟩ = some (.int .i64 (wn vd)) := hv 3 (by omega)
              have q4 : wr.cell? ⟨vb, 4, none⟩ = some (.int .i64 (wn ve)) := hv 4 (by omega)
              have q5 : wr.cell? ⟨vb, 5, none⟩ = some (.int .i64 (wn vf)) := hv 5 (by omega)
              have q6 : wr.cell? ⟨vb, 6, none⟩ = some (.int .i64 (wn vg)) := hv 6 (by omega)
              have q7 : wr.cell? ⟨vb, 7, none⟩ = some (.int .i64 (wn vh)) := hv 7 (by omega)
              have HN := Lib.hid hnext
              have H3 := Lib.hid hb3
              clear hnext hb3 hv
              have hx : vh + (rotr ve 6 ^^^ rotr ve 11 ^^^ rotr ve 25) + (ve &&& vf ^^^ ~~~ve &&& vg) + kt + wt = St.x ⟨va, vb0, vc0, vd, ve, vf, vg, vh⟩ kt wt := rfl
              have hy : (rotr va 2 ^^^ rotr va 13 ^^^ rotr va 22) + (va &&& vb0 ^^^ va &&& vc0 ^^^ vb0 &&& vc0) = St.y ⟨va, vb0, vc0, vd, ve, vf, vg, vh⟩ := rfl
              have hr3 : (⟨va, vb0, vc0, vd, ve, vf, vg, vh⟩ : St).round kt wt = ⟨St.x ⟨va, vb0, vc0, vd, ve, vf, vg, vh⟩ kt wt + St.y ⟨va, vb0, vc0, vd, ve, vf, vg, vh⟩, va, vb0, vc0, vd + St.x ⟨va, vb0, vc0, vd, ve, vf, vg, vh⟩ kt wt, ve, vf, vg⟩ := rfl
              generalize St.x ⟨va, vb0, vc0, vd, ve, vf, vg, vh⟩ kt wt = X at hx hr3
              generalize St.y ⟨va, vb0, vc0, vd, ve, vf, vg, vh⟩ = Y at hy hr3
              obtain ⟨A, hA⟩ : ∃ A, rotr ve 6 ^^^ rotr ve 11 ^^^ rotr ve 25 = A := ⟨_, rfl⟩
              obtain ⟨C, hC⟩ : ∃ C, ve &&& vf ^^^ ~~~ve &&& vg = C := ⟨_, rfl⟩
              rw [hA, hC] at hx
              have HXX := Lib.hid hx
              have HYY := Lib.hid hy
              have HRR := Lib.hid hr3
              clear hx hy hr3
              have e4 : (t3 : Int) < 64 := by omega
              have e5 : (0 : Int) ≤ (t3 : Int) := by omega
              have hh := wn_bd vh
              have ha := wn_bd A
              have hcb := wn_bd C
              have hkb := wn_bd kt
              have hwb := wn_bd wt
              have s1 : IntKind.i64.wrap (wn vh + wn A) = wn vh + wn A := IntWalk.i64_in _ (by omega)
              have s2 : IntKind.i64.wrap (wn vh + wn A + wn C) = wn vh + wn A + wn C := IntWalk.i64_in _ (by omega)
              have s3 : IntKind.i64.wrap (wn vh + wn A + wn C + wn kt) = wn vh + wn A + wn C + wn kt := IntWalk.i64_in _ (by omega)
              have s4 : IntKind.i64.wrap (wn vh + wn A + wn C + wn kt + wn wt) = wn vh + wn A + wn C + wn kt + wn wt := IntWalk.i64_in _ (by omega)
              have hxb : Hid (0 ≤ wn vh + wn A + wn C + wn kt + wn wt ∧ wn vh + wn A + wn C + wn kt + wn wt < 21474836480) := by unfold Hid; omega
              have hxs : Hid (BitVec.ofInt 32 (wn vh + wn A + wn C + wn kt + wn wt) = X) := by
                unfold Hid
                rw [BitVec.ofInt_add, BitVec.ofInt_add, BitVec.ofInt_add, BitVec.ofInt_add, wn_ofInt, wn_ofInt, wn_ofInt, wn_ofInt, wn_ofInt]
                exact HXX.out
              clear hh ha hcb hkb hwb HXX
              go_wp2_with fail
              go_quiet ((first | (go_at_call 39; exact Calls.quiet_of (rturned_any _ _ _ (by omega) (by omega))) | (go_at_call 33; exact Calls.quiet_of_same (moved_any _ _ _ (by omega) (by omega)))))
              rename_i nq
              generalize hW : wr.drewN nq = W2
              have p0 : W2.cell? ⟨vb, 0, none⟩ = some (.int .i64 (wn va)) := by rw [← hW]; exact q0
              have p1 : W2.cell? ⟨vb, 1, none⟩ = some (.int .i64 (wn vb0)) := by rw [← hW]; exact q1
              have p2 : W2.cell? ⟨vb, 2, none⟩ = some (.int .i64 (wn vc0)) := by rw [← hW]; exact q2
              have p3 : W2.cell? ⟨vb, 3, none⟩ = some (.int .i64 (wn vd)) := by rw [← hW]; exact q3
              have p4 : W2.cell? ⟨vb, 4, none⟩ = some (.int .i64 (wn ve)) := by rw [← hW]; exact q4
              have p5 : W2.cell? ⟨vb, 5, none⟩ = some (.int .i64 (wn vf)) := by rw [← hW]; exact q5
              have p6 : W2.cell? ⟨vb, 6, none⟩ = some (.int .i64 (wn vg)) := by rw [← hW]; exact q6
              have H4 : Hid (Below W4.heap.size W4 W2) := by rw [← hW]; exact ⟨H3.out.os, H3.out.tape, H3.out.output, H3.out.size, H3.out.block⟩
              clear hW q0 q1 q2 q3 q4 q5 q6 q7 c0 c1 H3
              generalize wn vh + wn A + wn C + wn kt + wn wt = xi at *
              obtain ⟨A', hA'⟩ : ∃ A, rotr va 2 ^^^ rotr va 13 ^^^ rotr va 22 = A := ⟨_, rfl⟩
              obtain ⟨M, hM⟩ : ∃ C, va &&& vb0 ^^^ va &&& vc0 ^^^ vb0 &&& vc0 = C := ⟨_, rfl⟩
              have hy := HYY.out
              rw [hA', hM] at hy
              have HY2 := Lib.hid hy
              clear hy HYY hA hC s1 s2 s3 s4 e4 e5
              have ha := wn_bd A'
              have hcb := wn_bd M
              have hdb := wn_bd vd
              have s1 : IntKind.i64.wrap (wn A' + wn M) = wn A' + wn M := IntWalk.i64_in _ (by omega)
              have s2 : IntKind.i64.wrap (xi + (wn A' + wn M)) = xi + (wn A' + wn M) := IntWalk.i64_in _ (by have := hxb.out; omega)
              have s3 : IntKind.i64.wrap (wn vd + xi) = wn vd + xi := IntWalk.i64_in _ (by have := hxb.out; omega)
              have hb1 : Hid (0 ≤ xi + (wn A' + wn M) ∧ xi + (wn A' + wn M) < 9223372036854775808) := by have := hxb.out; unfold Hid; omega
              have hb2 : Hid (0 ≤ wn vd + xi ∧ wn vd + xi < 9223372036854775808) := by have := hxb.out; unfold Hid; omega
              have hs1 : Hid (BitVec.ofInt 32 (xi + (wn A' + wn M)) = X + Y) := by
                unfold Hid
                rw [BitVec.ofInt_add, BitVec.ofInt_add, wn_ofInt, wn_ofInt, hxs.out, HY2.out]
              have hs2 : Hid (BitVec.ofInt 32 (wn vd + xi) = vd + X) := by
                unfold Hid
                rw [BitVec.ofInt_add, wn_ofInt, hxs.out]
              clear ha hcb hdb
              go_wp2_with fail
              go_quiet ((first | (go_at_call 39; exact Calls.quiet_of (rturned_any _ _ _ (by omega) (by omega))) | (go_at_call 33; exact Calls.quiet_of_same (moved_any _ _ _ (by omega) (by omega)))))
              rename_i nq
              generalize hW : W2.drewN nq = W3
              have q0 : W3.cell? ⟨vb, 0, none⟩ = some (.int .i64 (wn va)) := by rw [← hW]; exact p0
              have q1 : W3.cell? ⟨vb, 1, none⟩ = some (.int .i64 (wn vb0)) := by rw [← hW]; exact p1
              have q2 : W3.cell? ⟨vb, 2, none⟩ = some (.int .i64 (wn vc0)) := by rw [← hW]; exact p2
              have q3 : W3.cell? ⟨vb, 3, none⟩ = some (.int .i64 (wn vd)) := by rw [← hW]; exact p3
              have q4 : W3.cell? ⟨vb, 4, none⟩ = some (.int .i64 (wn ve)) := by rw [← hW]; exact p4
              have q5 : W3.cell? ⟨vb, 5, none⟩ = some (.int .i64 (wn vf)) := by rw [← hW]; exact p5
              have q6 : W3.cell? ⟨vb, 6, none⟩ = some (.int .i64 (wn vg)) := by rw [← hW]; exact p6
              have H5 : Hid (Below W4.heap.size W4 W3) := by rw [← hW]; exact ⟨H4.out.os, H4.out.tape, H4.out.output, H4.out.size, H4.out.block⟩
              clear hW p0 p1 p2 p3 p4 p5 p6 H4 hA' hM
              go_wp2_with fail
              go_region_held3 (fun w' => w'.cell? ⟨vb, 0, none⟩ = some (.int .i64 (wn va)) ∧ w'.cell? ⟨vb, 1, none⟩ = some (.int .i64 (wn vb0)) ∧ w'.cell? ⟨vb, 2, none⟩ = some (.int .i64 (wn vc0)) ∧ w'.cell? ⟨vb, 3, none⟩ = some (.int .i64 (wn vd)) ∧ w'.cell? ⟨vb, 4, none⟩ = some (.int .i64 (wn ve)) ∧ w'.cell? ⟨vb, 5, none⟩ = some (.int .i64 (wn vf)) ∧ w'.cell? ⟨vb, 6, none⟩ = some (.int .i64 (wn vg))) (go_keep) ((go_at_call 40; refine (word_any _ _ (by first | with_reducible exact hb1.out.1 | with_reducible exact hb2.out.1) (by first | with_reducible exact hb1.out.2 | with_reducible exact hb2.out.2)).mono ?_; rintro e w' ⟨rfl, rfl⟩))
              go_wp2
              go_roundw
              case rel =>
                refine ⟨t3 + 1, by omega, by go_num, W3.heap.size, 8, rfl, ?_, (H5.out.alloc H5.out.size _).drew⟩
                rw [HN.out, HRR.out, ← hs1.out, ← hs2.out]
                have hB := Blk.new W3 3 (wcells [BitVec.ofInt 32 (xi + (wn A' + wn M)), va, vb0, vc0, BitVec.ofInt 32 (wn vd + xi), ve, vf, vg])
                intro j hj
                refine (hB.drew.cell j).trans ?_
                exact wcells_at _ _ hj
              case measure => simp [intOf]; omega
            · have ht64 : Hid (t3 = 64) := by unfold Hid; omega
              rw [ht64.out] at hv
              have hvl : ∀ j, j < 8 → vb < wr.heap.size := fun j hj => block_lt_of_cell (hv j hj)
              have hvl := hvl 0 (by omega)
              have hsr : Hid (∀ j, j < 8 → wr.cell? ⟨gs, os + j, none⟩ = some (wcell (s.words.getD j 0)) ∧ wr.cell? ⟨vb, j, none⟩ = some (wcell ((roundsTo s (rowTo bs 64) 64).words.getD j 0))) := fun j hj => ⟨(hb3.cell (p := ⟨gs, os + j, none⟩) (Nat.lt_of_lt_of_le hgs hB4.out.size)).trans ((hB4.out.cell (p := ⟨gs, os + j, none⟩) hgs).trans (hs j hj)), hv j hj⟩
              have hB5 : Hid (Below w.heap.size w wr) := hB4.out.trans (hb3.mono hB4.out.size)
              have hbl : Hid (blockOf s bs = s.plus (roundsTo s (rowTo bs 64) 64)) := rfl
              generalize roundsTo s (rowTo bs 64) 64 = V at *
              have hgw : Hid (gs < wr.heap.size ∧ vb < wr.heap.size) := ⟨Nat.lt_of_lt_of_le hgs hB5.out.size, hvl⟩
              have hwd : ∀ j, j < 8 → (s.plus V).words.getD j 0 = s.words.getD j 0 + V.words.getD j 0 := by
                intro j hj
                have : j = 0 ∨ j = 1 ∨ j = 2 ∨ j = 3 ∨ j = 4 ∨ j = 5 ∨ j = 6 ∨ j = 7 := by omega
                rcases this with rfl | rfl | rfl | rfl | rfl | rfl | rfl | rfl <;> rfl
              have hwl : (s.plus V).words.length = 8 := rfl
              have HW := Lib.hid (And.intro hwd hwl)
              clear hwd hwl hv hb3 hvl hB4 hx4 hk4 hl4
              go_wp2_with fail
              obtain ⟨W5, rfl⟩ : ∃ wo : World, wo = wr := ⟨_, rfl⟩
              go_loopw [17, 18] (fun v i wr => ∃ t : Nat, t ≤ 8 ∧ i = .int .i64 (t : Int) ∧ wr.ownsRow W5.heap.size 3 1 v t (wcells ((s.plus V).words.take t)) ∧ Below W5.heap.size W5 wr) (fun _ i _ => 8 - (intOf i).toNat)
              case atStart => exact ⟨0, by omega, rfl, World.ownsRow_nil _ _ _ _, Below.refl _ _⟩
              case round =>
                obtain ⟨t4, ht4, rfl, hown, hbel⟩ := hrel
                by_cases hlt4 : t4 < 8
                · have c0 : wr.cell? ⟨gs, os + t4, none⟩ = _ := (hbel.cell (p := ⟨gs, os + t4, none⟩) hgw.out.1).trans (hsr.out t4 hlt4).1
                  have c1 : wr.cell? ⟨vb, t4, none⟩ = _ := (hbel.cell (p := ⟨vb, t4, none⟩) hgw.out.2).trans (hsr.out t4 hlt4).2
                  have hnx : (s.plus V).words.take (t4 + 1) = (s.plus V).words.take t4 ++ [s.words.getD t4 0 + V.words.getD t4 0] := by
                    rw [← HW.out.1 t4 hlt4, List.take_add_one, List.getD_eq_getElem?_getD, List.getElem?_eq_getElem (by rw [HW.out.2]; exact hlt4)]
                    rfl
                  generalize s.words.getD t4 0 = x at *
                  generalize V.words.getD t4 0 = y at *
                  unfold wcell at c0 c1
                  have hx := wn_bd x
                  have hy := wn_bd y
                  have s1 : IntKind.i64.wrap (wn x + wn y) = wn x + wn y := IntWalk.i64_in _ (by omega)
                  have HB : Hid (0 ≤ wn x + wn y ∧ wn x + wn y < 9223372036854775808) := by unfold Hid; omega
                  have HSU : Hid (BitVec.ofInt 32 (wn x + wn y) = x + y) := by unfold Hid; rw [BitVec.ofInt_add, wn_ofInt, wn_ofInt]
                  have HO := Lib.hid hown
                  have HV := Lib.hid hbel
                  have HX := Lib.hid hnx
                  have C0 := Lib.hid c0
                  have C1 := Lib.hid c1
                  have HN : Hid (u17.ownBlock ≠ some gs ∧ u17.ownBlock ≠ some vb) := by
                    constructor <;> intro h
                    · have := (hown.lt _ h).1
                      have := hgw.out.1
                      omega
                    · have := (hown.lt _ h).1
                      have := hgw.out.2
                      omega
                  have HL : Hid (gs < wr.heap.size ∧ vb < wr.heap.size) := ⟨Nat.lt_of_lt_of_le hgw.out.1 hbel.size, Nat.lt_of_lt_of_le hgw.out.2 hbel.size⟩
                  clear hown hbel hnx hx hy
                  have e4 : (t4 : Int) < 8 := by omega
                  have e5 : (0 : Int) ≤ (t4 : Int) := by omega
                  go_wp2_with fail
                  go_region_held3 (fun w' => w'.cell? ⟨gs, os + t4, none⟩ = some (.int .i64 (wn x)) ∧ w'.cell? ⟨vb, t4, none⟩ = some (.int .i64 (wn y))) (first | go_keep | exact ⟨keep5 _ _ _ (.inl HN.out.1) ((World.cell?_alloc_lt wr _ _ HL.out.1).trans C0.out), keep5 _ _ _ (.inl HN.out.2) ((World.cell?_alloc_lt wr _ _ HL.out.2).trans C1.out)⟩) (first | ((go_at_call 40; refine (word_any _ _ HB.out.1 HB.out.2).mono ?_; rintro e w' ⟨rfl, rfl⟩)) | ((obtain ⟨v5, w5, hrun5, own5, grow5, at5, keep5⟩ := app_keep (w := (wr.alloc (.cells #[.int .i64 (wn (BitVec.ofInt 32 (wn x + wn y)))] 3)).drew) intE 46 (HO.out.alloc _) (A := some ⟨wr.heap.size, 0, none⟩) (news := wcells [BitVec.ofInt 32 (wn x + wn y)]) 1 1 ((Rd.of_blk (cs := wcells [BitVec.ofInt 32 (wn x + wn y)]) (Blk.new wr 3 _) 0).drew) rfl (wcells_one _) (by omega) (by unfold maxLen; omega) (by simp; exact Nat.le_succ_of_le HV.out.size); refine step_append (by rfl) (.tmp 232) (.tmp 243) 46 46 (by rfl) _ _ (by rfl) (by rfl) hrun5 ?_)))
                  go_wp2
                  go_roundw
                  case rel =>
                    refine ⟨t4 + 1, by omega, by go_num, ?_, (HV.out.alloc HV.out.size _).drew.grown grow5 (by simp; exact Nat.le_succ_of_le HV.out.size) (fun q hq => (HO.out.lt q hq).1)⟩
                    rw [HX.out, wcells_append, ← HSU.out]
                    exact own5
                  case measure => simp [intOf]; omega
                · obtain rfl : t4 = 8 := by omega
                  go_wp2_with fail
                  go_ret
                  refine ⟨_, rfl, ?_, hB5.out.trans (hbel.mono hB5.out.size)⟩
                  rw [hbl.out]
                  have hw8 : (s.plus V).words.take 8 = (s.plus V).words := List.take_of_length_le (by rw [HW.out.2]; omega)
                  rw [hw8] at hown
                  exact own_base hown hB5.out.size
end Go.Proofs.YtleeacgimikdbaaDoor
