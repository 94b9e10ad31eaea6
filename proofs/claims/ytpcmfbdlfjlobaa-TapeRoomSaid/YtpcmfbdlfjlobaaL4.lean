/- The walk of TapeRoom: a side takes as many bytes as there is room for, and no more. -/
import Derived.Test.YtpcmfbdlfjlobaaT9
import Derived.Laws.MakeOwn
namespace Go.Proofs.Ytpcmfbdlfjlobaa
open Go.RowKit
set_option linter.unusedVariables false
attribute [local go_sem ↓] Go.wp_at_zero Go.wp_at_succ
theorem madeCells_one (z : Value) (n : Nat) : madeCells #[z] n = (List.replicate n z).toArray := by
  apply Array.ext
  · simp [madeCells]
  · intro i h1 h2
    simp [madeCells, Nat.mod_one]
theorem mk_bytes (n : Nat) (h : n ≤ 70000) (w : World) : (Instr.makeSlice 28 (.int .i64 (n : Int)) (.int .i64 (n : Int))).run Try.prog w = .ok (.slice (some ⟨w.heap.size, 0, none⟩) n n) (w.alloc (.cells (bvals (List.replicate n 0)).toArray 5)) := by
  obtain ⟨i, hi, hz, hs, hb⟩ := byteE.hi
  rw [run_make w 28 5 i (.int .u8 0) Try.underlying28 hi hz .i64 .i64 n n (by omega) (by omega) (by rw [hb]; omega) (by omega)]
  have e1 : ((n : Int)).toNat = n := by omega
  rw [e1, hs, Nat.mul_one]
  have e2 : (Value.int .u8 0).cells = #[.int .u8 0] := rfl
  rw [e2, madeCells_one]
  congr 3
  simp [bvals, bval]
theorem Go2.units_ {w0 w : World} {p : Nat} {s : TSt} {A : Option Addr} {bs : List UInt8} (h : Go2 w0 w p s A bs) : Calls Try.prog 17 #[.pointer (some ⟨p, 0, none⟩)] w fun e w' => e = .returned (.int .i64 (s.us.length : Int)) ∧ w = w' := by
  obtain ⟨F, ht, hb0, hl, hr, ha⟩ := h
  exact units_any ht
theorem Go2.room_ {w0 w : World} {p : Nat} {s : TSt} {A : Option Addr} {bs : List UInt8} (h : Go2 w0 w p s A bs) (hg : s.good) (o : Bool) (X : Option Addr) (n c : Nat) (hr : rdyN s (sdI o) = 0) (hm : 65536 < (s.now.get o).length + n) (hn : n ≤ 1000000) :
    Calls Try.prog 15 #[.pointer (some ⟨p, 0, none⟩), .int .i64 (sdI o), .slice X n c] w fun e w' => e = .returned (.int .i64 42) ∧ w = w' := by
  obtain ⟨F, ht, hb0, hl, hr0, ha⟩ := h
  exact write_room o X n c ht hg hr hm hn
structure RoomSt (s : TSt) (c : Nat) : Prop where
  good : s.good
  nb : s.burns = false
  len : (s.now.get true).length = c
  us : s.us.length = c
theorem RoomSt.rdy {s : TSt} {c : Nat} (h : RoomSt s c) : rdyN s 1 = 0 := by simp [rdyN, h.nb]
theorem RoomSt.add {s : TSt} {c : Nat} (h : RoomSt s c) (xs : List UInt8) (hl : c + xs.length ≤ 65536) : RoomSt (s.did (wUs true xs)) (c + xs.length) :=
  { good := g_did h.good true xs (side := 1) h.rdy (by rw [h.len]; exact hl)
    nb := h.nb
    len := by rw [TSt.did_now, runS_w, get_put, List.length_append, h.len]
    us := by show (s.us ++ wUs true xs).length = _; rw [List.length_append, wUs_length, h.us] }
def InvRm (w : World) (p m : Nat) (n i : Value) (wr : World) : Prop := ∃ (k c : Nat) (s : TSt), k ≤ m ∧ k ≤ 6 ∧ i = .int .i64 (k : Int) ∧ n = .int .i64 (c : Int) ∧ c ≤ 65536 ∧ Go2 w wr p s none [] ∧ RoomSt s c
set_option maxRecDepth 100000 in
set_option maxHeartbeats 8000000 in
theorem room_any (A : Option Addr) (c0 : Nat) (ks : List Int) (w : World) (h : Rd w A (ivals ks)) (hks : ∀ z ∈ ks, -9223372036854775808 ≤ z ∧ z ≤ 9223372036854775807) (hl : ks.length ≤ maxLen) :
    Calls Try.prog 4 #[.slice A ks.length c0] w (Lived w) := by
  unfold maxLen at hl
  generalize hn : ks.length = m at hl ⊢
  have HN := Lib.hid hn
  have HD := Lib.hid h
  have HKS := Lib.hid hks
  clear hn h hks
  go_enter Try.func4, Try.ntmps4
  go_wp2_with fail
  refine (new_any w).mono ?_
  intro e w1 hm
  obtain ⟨p, rfl, h1⟩ := hm.go
  have H1 := Lib.hid h1
  have HR1 : Hid (RoomSt t0 0) := ⟨t0_good, rfl, rfl, rfl⟩
  clear hm h1
  go_wp2_with fail
  go_loopw [4, 5, 6, 7] (fun n i _ _ wr => InvRm w p m n i wr) (fun _ i _ _ _ => 6 - (intOf i).toNat)
  case atStart => exact ⟨0, 0, t0, by omega, by omega, rfl, rfl, by omega, H1.out, HR1.out⟩
  case round =>
    clear H1 HR1
    obtain ⟨k, c, s, hk, hk1, rfl, rfl, hc, hgo, hrm⟩ := hrel
    have HG := Lib.hid hgo
    have HRM := Lib.hid hrm
    clear hgo hrm
    by_cases hlt : k < m ∧ k < 6
    · obtain ⟨hkn, hk6⟩ := hlt
      have hkn' : (k : Int) < (m : Int) := by omega
      have hk6' : (k : Int) < 6 := by omega
      have hrd := HD.out.below HG.out.bel
      obtain ⟨b, off, hA, hbl, hcell⟩ := hrd.at (j := k) (by rw [ivals_length, HN.out]; exact hkn)
      subst hA
      have e0 := hcell _ _ (ivals_at ks k (by rw [HN.out]; exact hkn))
      have hz : -9223372036854775808 ≤ ks.getD k 0 ∧ ks.getD k 0 ≤ 9223372036854775807 := HKS.out _ (by
        rw [List.getD_eq_getElem?_getD, List.getElem?_eq_getElem (by rw [HN.out]; exact hkn)]
        exact List.getElem_mem _)
      clear hrd hcell
      generalize ks.getD k 0 = z at *
      have hpl : pickF z 70000 < 70000 := pick_lt z 70000 (by omega)
      have HP := Lib.hid (fun wx => pick_any z 70000 wx hz.1 hz.2 (by omega) (by omega))
      clear hz
      generalize pickF z 70000 = r at *
      have hmk := fun wx => mk_bytes r (by omega) wx
      have hwr : IntKind.i64.wrap ((c : Int) + (r : Int)) = (c : Int) + (r : Int) := IntWalk.i64_in _ (by omega)
      go_wp2_with fail
      refine (HP.out _).mono ?_
      rintro e w' ⟨rfl, rfl⟩
      clear HP
      by_cases hroom : c + r ≤ 65536
      · have HX : Hid (Rd (wr.alloc (.cells (bvals (List.replicate r 0)).toArray 5)) (some ⟨wr.heap.size, 0, none⟩) (bvals (List.replicate r 0))) := Rd.newM wr 5 _ (0, 0)
        have HW := (HG.out.alloc (.cells (bvals (List.replicate r 0)).toArray 5)).write HRM.out.good true (some ⟨wr.heap.size, 0, none⟩) r (List.replicate r 0) HX.out HRM.out.rdy (by rw [HRM.out.len, List.length_replicate]; exact hroom) (by rw [HRM.out.us]; omega)
        rw [List.length_replicate] at HW
        have HW2 := Lib.hid HW
        have HRM2 : Hid (RoomSt (s.did (wUs true (List.replicate r 0))) (c + r)) := by
          have := HRM.out.add (List.replicate r 0) (by rw [List.length_replicate]; exact hroom)
          rw [List.length_replicate] at this
          exact this
        have hle : (c : Int) + (r : Int) ≤ 65536 := by omega
        clear HW HX
        go_wp2_with fail
        refine HW2.out.mono ?_
        rintro e w2 ⟨rfl, h2⟩
        have H2 := Lib.hid h2
        clear h2 HW2 HG HRM hmk
        go_wp2_with fail
        go_roundw
        case rel => exact ⟨k + 1, c + r, _, by omega, by omega, by go_num, by go_num, by omega, H2.out, HRM2.out⟩
        case measure => simp [intOf]; omega
      · have HW := (HG.out.alloc (.cells (bvals (List.replicate r 0)).toArray 5)).room_ HRM.out.good true (some ⟨wr.heap.size, 0, none⟩) r r HRM.out.rdy (by rw [HRM.out.len]; omega) (by omega)
        have HW2 := Lib.hid HW
        have hle : ¬ (c : Int) + (r : Int) ≤ 65536 := by omega
        have hgt : (65536 : Int) < (c : Int) + (r : Int) := by omega
        have HG2 := Lib.hid (HG.out.alloc (.cells (bvals (List.replicate r 0)).toArray 5))
        clear HW
        go_wp2_with fail
        refine HW2.out.mono ?_
        rintro e w2 ⟨rfl, rfl⟩
        clear HW2 hmk
        go_wp2_with fail
        go_roundw
        case rel => exact ⟨k + 1, c, _, by omega, by omega, by go_num, rfl, by omega, HG2.out, HRM.out⟩
        case measure => simp [intOf]; omega
    · have hx : ¬ (k : Int) < (m : Int) ∨ ((k : Int) < (m : Int) ∧ ¬ (k : Int) < 6) := by omega
      have HRD := HG.out.read_ HRM.out.good true HRM.out.rdy
      rw [HRM.out.len] at HRD
      have HRD2 := Lib.hid HRD
      clear hlt hk hk1 HD HN hl HKS HRD
      rcases hx with hx | ⟨hx, hx2⟩
      all_goals
        go_wp2_with fail
        refine HRD2.out.mono ?_
        rintro e w3 ⟨X, c3, rfl, _, h3⟩
        have H3 := Lib.hid h3
        have HU := h3.units_
        rw [HRM.out.us] at HU
        have HU2 := Lib.hid HU
        clear h3 HU HRD2 HG
        go_wp2_with fail
        refine HU2.out.mono ?_
        rintro e w4 ⟨rfl, rfl⟩
        go_wp2_with fail
        refine (lives_any w3).mono ?_
        rintro e w5 ⟨rfl, hb5⟩
        have HB5 : Hid (Below w.heap.size w w5) := H3.out.bel.trans (hb5.mono H3.out.bel.size)
        clear hb5
        go_wp2_with fail
        go_ret
        exact ⟨rfl, HB5.out⟩
end Go.Proofs.Ytpcmfbdlfjlobaa
