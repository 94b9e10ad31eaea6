/- Bytes, and what stands behind them. -/
import Derived.Test.YtleeacgimikdbaaDoorE
namespace Go.Proofs.YtleeacgimikdbaaDoor
open Go.RowKit
theorem byteE : Elem Tryd.prog 22 5 (.int .u8 0) 1 1 := Elem.mk_ Tryd.underlying22 (by kernel_rfl) rfl (by decide)
theorem zeroU8 (w : World) : (zeroValue 5).run Tryd.prog w = .ok (.int .u8 0) w := by kernel_rfl
def be64At (m k : Nat) : UInt8 := UInt8.ofNat (m >>> (56 - 8 * k))
theorem be64_eq (m : Nat) : be64 m = (List.range 8).map (be64At m) := rfl
theorem be64_take (m k : Nat) (h : k < 8) : (be64 m).take (k + 1) = (be64 m).take k ++ [be64At m k] := by
  rw [List.take_succ_eq_append_getElem (by simp [be64_eq]; omega)]
  simp [be64_eq]
theorem padded_length (bs : List UInt8) : (padded bs).length = bs.length + zerosOf bs.length + 9 := by
  simp [padded, be64]; omega
theorem be64At_val (n k : Nat) (_h : k < 8) : IntKind.u8.wrap ((n : Int) * 8 / 2 ^ (56 - 8 * k)) = ((be64At (8 * n) k).toNat : Int) := by
  unfold be64At
  rw [← wrap_u8, Nat.shiftRight_eq_div_pow, Nat.mul_comm 8 n]
  norm_cast
def PadTo (bs : List UInt8) (k : Nat) : List UInt8 := bs ++ [128] ++ List.replicate (zerosOf bs.length) 0 ++ (be64 (8 * bs.length)).take k
theorem PadTo_succ (bs : List UInt8) (k : Nat) (h : k < 8) : PadTo bs (k + 1) = PadTo bs k ++ [be64At (8 * bs.length) k] := by
  simp [PadTo, be64_take _ _ h]
theorem PadTo_8 (bs : List UInt8) : PadTo bs 8 = padded bs := by
  unfold PadTo padded
  rw [List.take_of_length_le (by simp [be64])]
set_option maxRecDepth 100000 in
set_option maxHeartbeats 1000000 in
theorem padded_any (A : Option Addr) (c : Nat) (bs : List UInt8) (w : World) (hr : Rd w A (bvals bs)) (hn : bs.length ≤ 1000000) :
    Calls Tryd.prog 30 #[.slice A bs.length c] w fun e w' => ∃ g, e = .returned (.slice (some ⟨g, 0, none⟩) (padded bs).length (padded bs).length) ∧ w'.ownsRow w.heap.size 5 1 (.slice (some ⟨g, 0, none⟩) (padded bs).length (padded bs).length) (padded bs).length (bvals (padded bs)) ∧ Below w.heap.size w w' := by
  obtain ⟨i0, hi0, hz0, hz1, hz2⟩ := byteE.hi
  have hzz : zerosOf bs.length ≤ 63 := by unfold zerosOf; omega
  have hPL := padded_length bs
  generalize hl : bs.length = n at *
  have hzI : (119 - (n : Int) % 64) % 64 = ((zerosOf n : Nat) : Int) := by unfold zerosOf; omega
  have hPT : ∀ k, PadTo bs k = bs ++ [128] ++ List.replicate (zerosOf n) 0 ++ (be64 (8 * n)).take k := fun k => by unfold PadTo; rw [hl]
  generalize zerosOf n = z at *
  have HL := Lib.hid hl
  have HPL := Lib.hid hPL
  have HPT := Lib.hid hPT
  clear hl hPL hPT
  go_enter Tryd.func30, Tryd.ntmps30
  go_wp2_with (first
    | (at_make; refine wpList_make_own _ rfl _ _ 22 rfl w.heap.size 5 i0 (.int .u8 0) 1 Tryd.underlying22 hi0 hz0 hz1 .i64 .i64 _ (n + z + 9) rfl rfl ?c1 ?c2 ?c3 (Nat.le_refl _) ?_; (case c1 => omega); (case c2 => rw [hz2]; omega); (case c3 => unfold maxLen; omega); intro w1 own1 grow1)
    | (at_builtin; obtain ⟨w2, hrun2, own2, grow2⟩ := app_fits byteE 22 own1 n c (hr.below ((Below.refl _ _).grown grow1 (Nat.le_refl _) (by simp))) (by rw [bvals_length, HL.out, Nat.mul_one]) (bvals_one bs) (by omega); simp only [Nat.zero_add, List.nil_append] at hrun2 own2; refine wpl_append rfl (.tmp 18) (.tmp 19) 22 22 rfl _ _ rfl rfl hrun2 ?_)
    | (at_builtin; obtain ⟨w3, hrun3, own3, grow3⟩ := app_fits byteE 22 (own2.alloc (.cells #[.int .u8 128] 5)) (A := some ⟨w2.heap.size, 0, none⟩) (news := bvals [128]) 1 1 (Rd.of_blk (cs := bvals [128]) (Blk.new w2 5 _) 0) rfl (bvals_one _) (by omega); refine wpl_append rfl (.tmp 21) (.tmp 22) 22 22 rfl _ _ rfl rfl hrun3 ?_)
    | (at_builtin; obtain ⟨w4, hrun4, own4, grow4⟩ := app_zeros byteE rfl rfl zeroU8 3 22 Tryd.underlying3 own3 rfl z (by omega) (by omega) (by omega); refine wpl_append rfl (.tmp 24) (.tmp 25) 22 3 rfl _ _ rfl rfl hrun4 ?_))
  have own4' : w4.ownsRow w.heap.size 5 1 (.slice (some ⟨w.heap.size, 0, none⟩) (n + 1 + z) (n + z + 9)) (n + 1 + z) (bvals (PadTo bs 0)) := by
    rw [HPT.out 0, List.take_zero, List.append_nil, bvals_append, bvals_append]
    have e : bvals (List.replicate z 0) = List.replicate z (.int .u8 0) := by simp [bvals, bval]
    rw [e]
    exact own4
  have bel4 : Below w.heap.size w w4 :=
    ((((Below.refl _ _).grown grow1 (Nat.le_refl _) (by simp)).grown grow2 grow1.size (by simp)).alloc (Nat.le_trans grow1.size grow2.size) _ |>.grown grow3 (by simp; exact Nat.le_trans grow1.size (Nat.le_succ_of_le grow2.size)) (by simp)).grown grow4 (by have := grow3.size; simp at this; exact Nat.le_trans grow1.size (Nat.le_trans grow2.size (Nat.le_of_succ_le this))) (by simp)
  clear own1 own2 own3 own4 grow1 grow2 grow3 grow4 hrun2 hrun3 hrun4 hzI
  go_loopw [5, 6] (fun v i wr => ∃ k : Nat, k ≤ 8 ∧ i = .int .i64 (56 - 8 * (k : Int)) ∧ v = .slice (some ⟨w.heap.size, 0, none⟩) (n + 1 + z + k) (n + z + 9) ∧ wr.ownsRow w.heap.size 5 1 (.slice (some ⟨w.heap.size, 0, none⟩) (n + 1 + z + k) (n + z + 9)) (n + 1 + z + k) (bvals (PadTo bs k)) ∧ Below w.heap.size w wr) (fun _ i _ => (intOf i + 8).toNat)
  case atStart => exact ⟨0, by omega, rfl, rfl, own4', bel4⟩
  case round =>
    obtain ⟨k, hk, rfl, rfl, hown, hbel⟩ := hrel
    clear own4' bel4
    by_cases hlt : k < 8
    · have q0 : (0 : Int) ≤ 56 - 8 * (k : Int) := by omega
      have q1 : (56 : Int) - 8 * (k : Int) ≤ 64 := by omega
      have q2 : (56 - 8 * (k : Int)).toNat = 56 - 8 * k := by omega
      have q3 := be64At_val n k hlt
      have HB := Lib.hid hbel
      clear hbel
      go_wp2_with (at_builtin; obtain ⟨w5, hrun5, own5, grow5⟩ := app_fits byteE 22 (hown.alloc (.cells #[.int .u8 ((be64At (8 * n) k).toNat : Int)] 5)) (A := some ⟨wr.heap.size, 0, none⟩) (news := bvals [be64At (8 * n) k]) 1 1 (Rd.of_blk (cs := bvals [be64At (8 * n) k]) (Blk.new wr 5 _) 0) rfl (bvals_one _) (by omega); refine wpl_append rfl (.tmp 31) (.tmp 37) 22 22 rfl _ _ rfl rfl hrun5 ?_)
      go_roundw
      case rel =>
        refine ⟨k + 1, by omega, by first | (congr 1; omega) | (simp; omega), by first | rfl | (congr 1; omega), ?_, (HB.out.alloc HB.out.size _).grown grow5 (by simp; exact Nat.le_succ_of_le HB.out.size) (by simp)⟩
        rw [PadTo_succ bs k hlt, bvals_append, HL.out]
        exact own5
      case measure => simp [intOf]; omega
    · obtain rfl : k = 8 := by omega
      go_wp2
      go_ret
      have e : (padded bs).length = n + 1 + z + 8 := by rw [HPL.out]; omega
      rw [e]
      refine ⟨w.heap.size, ?_, ?_, hbel⟩
      · simp
        omega
      · rw [PadTo_8] at hown
        have e2 : n + z + 9 = n + 1 + z + 8 := by omega
        rw [← e2] at hown ⊢
        exact hown
end Go.Proofs.YtleeacgimikdbaaDoor
