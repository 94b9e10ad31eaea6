/- Bytes in base 16, and whether bytes are the same. -/
import Derived.Test.YtleeacgimikdbaaDoorF
namespace Go.Proofs.YtleeacgimikdbaaDoor
open Go.RowKit
attribute [local go_sem ↓] Go.wp_at_zero Go.wp_at_succ
def dig (n : Nat) : UInt8 := if n < 10 then UInt8.ofNat (48 + n) else UInt8.ofNat (87 + n)
def hexHi (b : UInt8) : UInt8 := dig (b.toNat / 16)
def hexLo (b : UInt8) : UInt8 := dig (b.toNat % 16)
def hexOf (bs : List UInt8) : List UInt8 := bs.flatMap fun b => [hexHi b, hexLo b]
def strOf (l : List UInt8) : Value := .string ⟨l.toArray⟩
theorem index_dig (n : Nat) (h : n < 16) (w : World) : (Instr.index 9 (.string ⟨#[48, 49, 50, 51, 52, 53, 54, 55, 56, 57, 97, 98, 99, 100, 101, 102]⟩) (.int .u8 (n : Int))).run Tryd.prog w = .ok (.int .u8 ((dig n).toNat : Int)) w := by
  obtain rfl | rfl | rfl | rfl | rfl | rfl | rfl | rfl | rfl | rfl | rfl | rfl | rfl | rfl | rfl | rfl : n = 0 ∨ n = 1 ∨ n = 2 ∨ n = 3 ∨ n = 4 ∨ n = 5 ∨ n = 6 ∨ n = 7 ∨ n = 8 ∨ n = 9 ∨ n = 10 ∨ n = 11 ∨ n = 12 ∨ n = 13 ∨ n = 14 ∨ n = 15 := by omega
  all_goals kernel_rfl
theorem index_hi (b : UInt8) (w : World) : (Instr.index 9 (.string ⟨#[48, 49, 50, 51, 52, 53, 54, 55, 56, 57, 97, 98, 99, 100, 101, 102]⟩) (.int .u8 ((b.toNat : Int) / 16))).run Tryd.prog w = .ok (.int .u8 ((hexHi b).toNat : Int)) w := by
  have := u8_lt b
  exact index_dig (b.toNat / 16) (by omega) w
theorem index_lo (b : UInt8) (w : World) : (Instr.index 9 (.string ⟨#[48, 49, 50, 51, 52, 53, 54, 55, 56, 57, 97, 98, 99, 100, 101, 102]⟩) (.int .u8 ((b.toNat : Int) % 16))).run Tryd.prog w = .ok (.int .u8 ((hexLo b).toNat : Int)) w :=
  index_dig (b.toNat % 16) (by omega) w
theorem hexOf_take (bs : List UInt8) (k : Nat) (h : k < bs.length) : hexOf (bs.take (k + 1)) = hexOf (bs.take k) ++ [hexHi (bs.getD k 0), hexLo (bs.getD k 0)] := by
  unfold hexOf
  rw [List.take_succ_eq_append_getElem h, List.flatMap_append, List.getD_eq_getElem?_getD, List.getElem?_eq_getElem h]
  simp
set_option maxRecDepth 100000 in
set_option maxHeartbeats 1000000 in
theorem hex_any (A : Option Addr) (c : Nat) (bs : List UInt8) (w : World) (hr : Rd w A (bvals bs)) (hn : bs.length ≤ 1000000) :
    Calls Tryd.prog 19 #[.slice A bs.length c] w fun e w' => e = .returned (strOf (hexOf bs)) ∧ Below w.heap.size w w' := by
  have hl : Hid (bs.length = bs.length) := rfl
  generalize hm : bs.length = n at hl hn ⊢
  have HM := Lib.hid hm
  clear hm hl
  go_enter Tryd.func19, Tryd.ntmps19
  go_wp2_with fail
  go_loopw [3, 8] (fun v i wr => ∃ k : Nat, k ≤ n ∧ i = .int .i64 (k : Int) ∧ wr.ownsRow w.heap.size 5 1 v (2 * k) (bvals (hexOf (bs.take k))) ∧ Below w.heap.size w wr) (fun _ i _ => n - (intOf i).toNat)
  case atStart => exact ⟨0, by omega, rfl, World.ownsRow_nil _ _ _ _, Below.refl _ _⟩
  case round =>
    obtain ⟨k, hk8, rfl, hown, hb⟩ := hrel
    have hrr := hr.below hb
    by_cases hk : k < n
    · obtain ⟨bl, off, hA, hcell⟩ := hrr.byte (j := k) (by rw [HM.out]; exact hk)
      subst hA
      have hx := Lib.hid (hexOf_take bs k (by rw [HM.out]; exact hk))
      have HO := Lib.hid hown
      have HV := Lib.hid hb
      clear hown hb hrr
      generalize bs.getD k 0 = x at *
      have i1 := index_hi x
      have i2 := index_lo x
      have hx8 := u8_lt x
      have ba : bits BinOp.and IntKind.u8 (x.toNat : Int) 15 = (x.toNat : Int) % 16 := u8_and15 _ (by omega) (by omega)
      have e4 : (k : Int) < (n : Int) := by omega
      go_wp2_with fail
      go_region_held3 (fun _ => True) (trivial) ((obtain ⟨v5, w5, hrun5, own5, grow5, at5⟩ := app_own (w := (wr.alloc (.cells #[.int .u8 ((hexHi x).toNat : Int), .int .u8 ((hexLo x).toNat : Int)] 5)).drew) byteE 22 (HO.out.alloc _) (A := some ⟨wr.heap.size, 0, none⟩) (news := bvals [hexHi x, hexLo x]) 2 2 ((Rd.of_blk (cs := bvals [hexHi x, hexLo x]) (Blk.new wr 5 _) 0).drew) rfl (bvals_one _) (by omega) (by unfold maxLen; omega) (by simp; exact Nat.le_succ_of_le HV.out.size); refine step_append (by rfl) (.tmp 12) (.tmp 19) 22 22 (by rfl) _ _ (by rfl) (by rfl) hrun5 ?_))
      all_goals
        go_wp2
        go_roundw
        case rel =>
          refine ⟨k + 1, by omega, by go_num, ?_, ?_⟩
          · rw [hx.out, bvals_append]; exact own5
          · exact ((HV.out.alloc HV.out.size _).drew).grown grow5 (by simp; exact Nat.le_succ_of_le HV.out.size) (fun q hq => (HO.out.lt q hq).1)
        case measure => simp [intOf]; omega
    · obtain rfl : k = n := by omega
      rw [List.take_of_length_le (by rw [HM.out]; exact Nat.le_refl _)] at hown
      have HO := Lib.hid hown
      have HV := Lib.hid hb
      have hlen : Hid ((hexOf bs).length = 2 * k) := by
        have h1 := hown.1
        rw [bvals_length, Nat.mul_one] at h1
        exact h1
      have hform : Hid (∃ A cap, u3 = .slice A (2 * k) cap) := by
        rcases hown.2 with ⟨h1, h2⟩ | ⟨g, cap, _, h1, _⟩
        · exact ⟨none, 0, by rw [h1, h2]⟩
        · exact ⟨_, cap, h1⟩
      clear hown hb hrr hr
      obtain ⟨A3, cap3, h3⟩ := hform.out
      clear hform
      subst h3
      have hs := str_of (P := Tryd.prog) (w := wr) (dst := 9) Tryd.underlying22 Tryd.underlying5 Tryd.underlying9 cap3 (Rd.of_own HO.out) hlen.out
      go_wp2
      go_ret
      exact ⟨rfl, HV.out⟩
end Go.Proofs.YtleeacgimikdbaaDoor
