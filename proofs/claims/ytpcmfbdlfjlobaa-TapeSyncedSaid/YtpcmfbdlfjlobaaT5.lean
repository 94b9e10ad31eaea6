/- Write: bytes at a side's end. -/
import Derived.Test.YtpcmfbdlfjlobaaT4
namespace Go.Proofs.Ytpcmfbdlfjlobaa
open Go.RowKit
set_option linter.unusedVariables false
attribute [local go_sem ↓] Go.wp_at_zero Go.wp_at_succ
def sdI : Bool → Int
  | false => 0
  | true => 1
theorem own_slice {w : World} {base : Nat} {e : TypeId} {size : Nat} {v : Value} {n : Nat} {xs : List Value} (h : w.ownsRow base e size v n xs) : ∃ A cap, v = .slice A n cap ∧ n ≤ cap ∧ cap ≤ maxLen := by
  rcases h.2 with ⟨h1, h2⟩ | ⟨g, cap, cur, h1, _, _, h3, h4, _⟩
  · exact ⟨none, 0, by rw [h1, h2], by omega, by simp⟩
  · exact ⟨_, cap, h1, h3, h4⟩
theorem own_keep {w w' : World} {B : Nat} {e : TypeId} {size : Nat} {v : Value} {n : Nat} {xs : List Value} (h : w.ownsRow B e size v n xs) (hk : ∀ g, v.ownBlock = some g → w'.heap[g]? = w.heap[g]?) : w'.ownsRow B e size v n xs := by
  refine ⟨h.1, ?_⟩
  rcases h.2 with h0 | ⟨g, cap, cur, hv, hb, hh, hr⟩
  · exact .inl h0
  · exact .inr ⟨g, cap, cur, hv, hb, (hk g (by rw [hv]; rfl)).trans hh, hr⟩
theorem own_below {w w' : World} {B : Nat} {e : TypeId} {size : Nat} {v : Value} {n : Nat} {xs : List Value} (h : w.ownsRow B e size v n xs) (hb : Below w.heap.size w w') : w'.ownsRow B e size v n xs := own_keep h fun g hg => hb.block g (h.lt g hg).2
theorem write_rdy {w : World} {p : Nat} {s : TSt} {F : Nat → Prop} (side : Int) (v : Value) (h : Tp w p s F) (hr : rdyN s side ≠ 0) :
    Calls Try.prog 15 #[.pointer (some ⟨p, 0, none⟩), .int .i64 side, v] w fun e w' => e = .returned (.int .i64 (rdyN s side)) ∧ w = w' := by
  have HR := Lib.hid (ready_any side h)
  clear h
  have hne : (rdyN s side != 0) = true := by simpa using hr
  generalize rdyN s side = r at *
  go_enter Try.func15, Try.ntmps15
  go_wp2_with fail
  refine HR.out.mono ?_
  rintro e w' ⟨rfl, rfl⟩
  go_wp2
  go_ret
  exact ⟨rfl, rfl⟩
theorem tp_now {w : World} {p : Nat} {s : TSt} {F : Nat → Prop} (h : Tp w p s F) (o : Bool) : ∃ A c, w.cell? ⟨p, (match o with | false => 2 | true => 3), none⟩ = some (.slice A (s.now.get o).length c) ∧ GOwn w 5 1 (.slice A (s.now.get o).length c) (s.now.get o).length (bvals (s.now.get o)) ∧ (s.now.get o).length ≤ c ∧ c ≤ maxLen := by
  obtain ⟨s0, s1, n0, n1, uv, L, h, hL⟩ := h
  cases o
  · obtain ⟨A, c, rfl, h1, h2⟩ := h.now.o0.slice
    exact ⟨A, c, h.ptr.cell 2, h.now.o0, h1, h2⟩
  · obtain ⟨A, c, rfl, h1, h2⟩ := h.now.o1.slice
    exact ⟨A, c, h.ptr.cell 3, h.now.o1, h1, h2⟩
theorem write_room {w : World} {p : Nat} {s : TSt} {F : Nat → Prop} (o : Bool) (A : Option Addr) (n c : Nat) (h : Tp w p s F) (hg : s.good) (hr : rdyN s (sdI o) = 0) (hm : 65536 < (s.now.get o).length + n) (hn : n ≤ 1000000) :
    Calls Try.prog 15 #[.pointer (some ⟨p, 0, none⟩), .int .i64 (sdI o), .slice A n c] w fun e w' => e = .returned (.int .i64 42) ∧ w = w' := by
  have HR := ready_any (sdI o) h
  rw [hr] at HR
  obtain ⟨B, d, hc, _, _, _⟩ := tp_now h o
  have hz := hg.now o
  clear h hr hg
  generalize (s.now.get o).length = m at *
  have hlt : 65536 - (m : Int) < (n : Int) := by omega
  have HRR := Lib.hid HR
  clear HR hm
  cases o
  all_goals
    simp only [sdI] at *
    go_enter Try.func15, Try.ntmps15
    go_wp2_with fail
    refine HRR.out.mono ?_
    rintro e w' ⟨rfl, rfl⟩
    go_wp2
    go_ret
    exact ⟨rfl, rfl⟩
def InvWr (w : World) (o : Bool) (bs : List UInt8) (v i : Value) (wr : World) : Prop := ∃ k : Nat, k ≤ bs.length ∧ i = .int .i64 (k : Int) ∧ wr.ownsRow w.heap.size 61 3 v k (ucells (wUs o (bs.take k))) ∧ Below w.heap.size w wr
set_option maxRecDepth 100000 in
set_option maxHeartbeats 4000000 in
theorem write_any {w : World} {p : Nat} {s : TSt} {F : Nat → Prop} (o : Bool) (A : Option Addr) (c : Nat) (bs : List UInt8) (h : Tp w p s F) (hg : s.good) (hr : rdyN s (sdI o) = 0) (hrd : Rd w A (bvals bs)) (hm : (s.now.get o).length + bs.length ≤ 65536) (hl2 : s.us.length ≤ 1000000) :
    Calls Try.prog 15 #[.pointer (some ⟨p, 0, none⟩), .int .i64 (sdI o), .slice A bs.length c] w (Did (fun w' => Tp w' p (s.did (wUs o bs))) F (.returned (.int .i64 0)) w) := by
  have HR := ready_any (sdI o) h
  rw [hr] at HR
  obtain ⟨B, d, hc, _, _, _⟩ := tp_now h o
  have hz := hg.now o
  have HT := Lib.hid h
  have HRD := Lib.hid hrd
  have HG := Lib.hid hg
  have HRDY := Lib.hid hr
  have HLE := Lib.hid hm
  have HUL : Hid (s.us.length ≤ 1000000) := hl2
  have hlt : (bs.length : Int) ≤ 65536 - ((s.now.get o).length : Int) := by omega
  have HOK : Hid (okUs s.now (wUs o bs)) := okUs_w s.now o bs (okUs_run hg.ok) hm
  have HRR := Lib.hid HR
  have hn6 : bs.length ≤ 65536 := by omega
  clear HR hm h hr hg hrd hl2
  generalize (s.now.get o).length = m at *
  generalize hn : bs.length = n at *
  have HN := Lib.hid hn
  clear hn
  cases o
  · simp only [sdI] at *
    go_enter Try.func15, Try.ntmps15
    go_wp2_with fail
    refine HRR.out.mono ?_
    rintro e w' ⟨rfl, rfl⟩
    go_wp2_with fail
    clear hc hlt HRR
    go_loopw [8, 10, 30] (fun v _ i wr => InvWr w false bs v i wr) (fun _ _ i _ => n - (intOf i).toNat)
    case atStart => exact ⟨0, by omega, rfl, World.ownsRow_nil _ _ _ _, Below.refl _ _⟩
    case round =>
      obtain ⟨k, hk, rfl, hown, hb⟩ := hrel
      rw [HN.out] at hk
      have HO := Lib.hid hown
      have HB := Lib.hid hb
      clear hown hb
      by_cases hlt : k < n
      · have hlt' : (k : Int) < (n : Int) := by omega
        have hkl : k < bs.length := by rw [HN.out]; exact hlt
        have hrd : Rd wr A (bvals bs) := HRD.out.below HB.out
        obtain ⟨b, off, hAe, hbl, hc⟩ := hrd.at (j := k) (by rw [bvals_length]; omega)
        subst hAe
        have e0 := hc _ _ (bvals_at bs k hkl)
        obtain ⟨x, hx⟩ : ∃ x, bs.getD k 0 = x := ⟨_, rfl⟩
        rw [hx] at e0
        unfold bval at e0
        have HX : Hid (wUs false (bs.take (k + 1)) = wUs false (bs.take k) ++ [⟨false, none, x⟩]) := by
          unfold Hid
          rw [← List.take_append_getElem hkl]
          rw [List.getD_eq_getElem?_getD, List.getElem?_eq_getElem hkl] at hx
          simp at hx
          simp [wUs, hx]
        clear hc hrd hx
        have HRN : Hid (Rd (wr.alloc (.cells #[.int .i64 0, .int .i64 (-1), .int .u8 (x.toNat : Int)] 61)) (some ⟨wr.heap.size, 0, none⟩) (ucells [⟨false, none, x⟩])) := Rd.of_blk (cs := ucells [⟨false, none, x⟩]) (Blk.new wr 61 _) 0
        go_wp2_with (at_builtin; obtain ⟨v5, w5, hrun5, own5, grow5, at5⟩ := app_own unE 53 (own_below HO.out ((Below.refl _ _).alloc (Nat.le_refl _) (.cells #[.int .i64 0, .int .i64 (-1), .int .u8 (x.toNat : Int)] 61))) (A := some ⟨wr.heap.size, 0, none⟩) (news := ucells [⟨false, none, x⟩]) 1 1 HRN.out rfl (ucells_one _) (by omega) (by unfold maxLen; omega) (by simp; exact Nat.le_succ_of_le HB.out.size); refine wpl_append rfl (.tmp 34) (.tmp 38) 53 53 rfl _ _ rfl rfl hrun5 ?_; clear hrun5)
        go_roundw
        case rel =>
          refine ⟨k + 1, by rw [HN.out]; omega, by go_num, ?_, (HB.out.alloc HB.out.size _).grown grow5 (by simp; exact Nat.le_succ_of_le HB.out.size) (fun g hg => (HO.out.lt g hg).1)⟩
          rw [HX.out, ucells_append]
          exact own5
        case measure => simp [intOf]; omega
      · obtain rfl : k = n := by omega
        have hmm : bs.take k = bs := List.take_of_length_le (by rw [HN.out]; exact Nat.le_refl _)
        have HO2 : Hid (wr.ownsRow w.heap.size 61 3 u8 k (ucells (wUs false bs))) := by
          have := HO.out
          rw [hmm] at this
          exact this
        obtain ⟨A8, c8, rfl, hl8, hm8⟩ := own_slice HO2.out
        have HAA : Hid (∀ a, A8 = some a → ¬ F a.block ∧ a.block < wr.heap.size) := fun a ha => by
          subst ha
          have h1 := HO2.out.lt a.block rfl
          exact ⟨fun hF => by have := HT.out.lt _ hF; omega, h1.2⟩
        have HWL : Hid ((wUs false bs).length = k) := by unfold Hid; rw [wUs_length]; exact HN.out
        have HDO := does_any A8 c8 (wUs false bs) (HT.out.below HB.out) HG.out (Rd.of_own HO2.out) HOK.out HAA.out (by rw [HWL.out]; omega) HUL.out (fun hb h0 => by have := HRDY.out; simp [rdyN, hb, h0] at this)
        rw [HWL.out] at HDO
        have HDO2 := Lib.hid HDO
        clear HDO hmm HO HO2 hl8 hm8
        go_wp2_with fail
        refine HDO2.out.mono ?_
        rintro e w6 ⟨rfl, F6, ht6, hk6, hg6⟩
        have HFIN : Hid (Did (fun w' => Tp w' p (s.did (wUs false bs))) F (.returned (.int .i64 0)) w (.returned (.int .i64 0)) w6) := ⟨rfl, F6, ht6, (Kept.of_below F HB.out).trans (Grew.refl _ _) hk6, fun b hb => (hg6 b hb).imp id (fun e => Nat.le_trans HB.out.size e)⟩
        clear ht6 hk6 hg6 HDO2
        go_wp2_with fail
        go_ret
        exact HFIN.out
  · simp only [sdI] at *
    go_enter Try.func15, Try.ntmps15
    go_wp2_with fail
    refine HRR.out.mono ?_
    rintro e w' ⟨rfl, rfl⟩
    go_wp2_with fail
    clear hc hlt HRR
    go_loopw [8, 10, 30] (fun v _ i wr => InvWr w true bs v i wr) (fun _ _ i _ => n - (intOf i).toNat)
    case atStart => exact ⟨0, by omega, rfl, World.ownsRow_nil _ _ _ _, Below.refl _ _⟩
    case round =>
      obtain ⟨k, hk, rfl, hown, hb⟩ := hrel
      rw [HN.out] at hk
      have HO := Lib.hid hown
      have HB := Lib.hid hb
      clear hown hb
      by_cases hlt : k < n
      · have hlt' : (k : Int) < (n : Int) := by omega
        have hkl : k < bs.length := by rw [HN.out]; exact hlt
        have hrd : Rd wr A (bvals bs) := HRD.out.below HB.out
        obtain ⟨b, off, hAe, hbl, hc⟩ := hrd.at (j := k) (by rw [bvals_length]; omega)
        subst hAe
        have e0 := hc _ _ (bvals_at bs k hkl)
        obtain ⟨x, hx⟩ : ∃ x, bs.getD k 0 = x := ⟨_, rfl⟩
        rw [hx] at e0
        unfold bval at e0
        have HX : Hid (wUs true (bs.take (k + 1)) = wUs true (bs.take k) ++ [⟨true, none, x⟩]) := by
          unfold Hid
          rw [← List.take_append_getElem hkl]
          rw [List.getD_eq_getElem?_getD, List.getElem?_eq_getElem hkl] at hx
          simp at hx
          simp [wUs, hx]
        clear hc hrd hx
        have HRN : Hid (Rd (wr.alloc (.cells #[.int .i64 1, .int .i64 (-1), .int .u8 (x.toNat : Int)] 61)) (some ⟨wr.heap.size, 0, none⟩) (ucells [⟨true, none, x⟩])) := Rd.of_blk (cs := ucells [⟨true, none, x⟩]) (Blk.new wr 61 _) 0
        go_wp2_with (at_builtin; obtain ⟨v5, w5, hrun5, own5, grow5, at5⟩ := app_own unE 53 (own_below HO.out ((Below.refl _ _).alloc (Nat.le_refl _) (.cells #[.int .i64 1, .int .i64 (-1), .int .u8 (x.toNat : Int)] 61))) (A := some ⟨wr.heap.size, 0, none⟩) (news := ucells [⟨true, none, x⟩]) 1 1 HRN.out rfl (ucells_one _) (by omega) (by unfold maxLen; omega) (by simp; exact Nat.le_succ_of_le HB.out.size); refine wpl_append rfl (.tmp 34) (.tmp 38) 53 53 rfl _ _ rfl rfl hrun5 ?_; clear hrun5)
        go_roundw
        case rel =>
          refine ⟨k + 1, by rw [HN.out]; omega, by go_num, ?_, (HB.out.alloc HB.out.size _).grown grow5 (by simp; exact Nat.le_succ_of_le HB.out.size) (fun g hg => (HO.out.lt g hg).1)⟩
          rw [HX.out, ucells_append]
          exact own5
        case measure => simp [intOf]; omega
      · obtain rfl : k = n := by omega
        have hmm : bs.take k = bs := List.take_of_length_le (by rw [HN.out]; exact Nat.le_refl _)
        have HO2 : Hid (wr.ownsRow w.heap.size 61 3 u8 k (ucells (wUs true bs))) := by
          have := HO.out
          rw [hmm] at this
          exact this
        obtain ⟨A8, c8, rfl, hl8, hm8⟩ := own_slice HO2.out
        have HAA : Hid (∀ a, A8 = some a → ¬ F a.block ∧ a.block < wr.heap.size) := fun a ha => by
          subst ha
          have h1 := HO2.out.lt a.block rfl
          exact ⟨fun hF => by have := HT.out.lt _ hF; omega, h1.2⟩
        have HWL : Hid ((wUs true bs).length = k) := by unfold Hid; rw [wUs_length]; exact HN.out
        have HDO := does_any A8 c8 (wUs true bs) (HT.out.below HB.out) HG.out (Rd.of_own HO2.out) HOK.out HAA.out (by rw [HWL.out]; omega) HUL.out (fun hb h0 => by have := HRDY.out; simp [rdyN, hb, h0] at this)
        rw [HWL.out] at HDO
        have HDO2 := Lib.hid HDO
        clear HDO hmm HO HO2 hl8 hm8
        go_wp2_with fail
        refine HDO2.out.mono ?_
        rintro e w6 ⟨rfl, F6, ht6, hk6, hg6⟩
        have HFIN : Hid (Did (fun w' => Tp w' p (s.did (wUs true bs))) F (.returned (.int .i64 0)) w (.returned (.int .i64 0)) w6) := ⟨rfl, F6, ht6, (Kept.of_below F HB.out).trans (Grew.refl _ _) hk6, fun b hb => (hg6 b hb).imp id (fun e => Nat.le_trans HB.out.size e)⟩
        clear ht6 hk6 hg6 HDO2
        go_wp2_with fail
        go_ret
        exact HFIN.out
end Go.Proofs.Ytpcmfbdlfjlobaa
