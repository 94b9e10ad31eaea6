/- Contracts of the keys. -/
import Derived.Test.YtleeacgimikdbaaDoorM5
import Derived.Lib.AppendStr
namespace Go.Proofs.YtleeacgimikdbaaDoor
open Go.RowKit
attribute [local go_sem ↓] Go.wp_at_zero Go.wp_at_succ
def numByte (n : Int) (q : Nat) : UInt8 := UInt8.ofNat ((n / 2 ^ (56 - 8 * q)) % 256).toNat
def numBytes8 (n : Int) : List UInt8 := (List.range 8).map (numByte n)
theorem numByte_val (n : Int) (q : Nat) : n / 2 ^ (56 - 8 * q) % 256 = ((numByte n q).toNat : Int) := by
  unfold numByte
  rw [UInt8.toNat_ofNat_of_lt' (by show _ < 256; omega)]
  omega
theorem numBytes8_length (n : Int) : (numBytes8 n).length = 8 := by simp [numBytes8]
theorem numBytes8_take (n : Int) (k : Nat) (h : k < 8) : (numBytes8 n).take (k + 1) = (numBytes8 n).take k ++ [numByte n k] := by
  rw [List.take_succ_eq_append_getElem (by rw [numBytes8_length]; exact h)]
  simp [numBytes8]
def keyOf (key label : List UInt8) (n : Int) : List UInt8 := tagOf key (label ++ [0] ++ numBytes8 n)
theorem strCells_bvals (s : ByteArray) : Lib.strCells s = bvals s.data.toList := rfl
set_option maxRecDepth 100000 in
set_option maxHeartbeats 2000000 in
theorem rkey_any (A : Option Addr) (c : Nat) (key : List UInt8) (s : ByteArray) (n : Int) (w : World) (hk : Rd w A (bvals key)) (hkl : key.length ≤ 1000) (hs : s.size ≤ 1000) :
    Calls Tryd.prog 29 #[.slice A key.length c, .string s, .int .i64 n] w fun e w' => ∃ v, e = .returned v ∧ w'.ownsRow w.heap.size 5 1 v 32 (bvals (keyOf key s.data.toList n)) ∧ Below w.heap.size w w' := by
  obtain ⟨i0, hi0, hz0, hz1, hz2⟩ := byteE.hi
  have HA := Lib.hid hk
  clear hk
  have hsl : Hid (s.data.toList.length = s.size) := by unfold Hid; rw [Array.length_toList]; rfl
  go_enter Tryd.func29, Tryd.ntmps29
  go_wp2_with (first
    | (at_builtin; refine Lib.wpList_append_own_string w rfl (.tmp 9) (.tmp 10) 22 9 rfl w.heap.size 5 i0 Tryd.underlying22 Tryd.underlying9 hi0 hz0 hz1 hz2 (.slice none 0 0) 0 [] rfl (World.ownsRow_nil w w.heap.size 5 1) s rfl ?c1 ?c2 (Nat.le_refl _) ?_; (case c1 => unfold maxLen; omega); (case c2 => omega); intro v2 w2 own2 grow2 _; simp only [Nat.zero_add, List.nil_append] at own2)
    | (at_builtin; obtain ⟨v3, w3, hrun3, own3, grow3, at3⟩ := app_own byteE 22 (own2.alloc (.cells #[.int .u8 0] 5)) (A := some ⟨w2.heap.size, 0, none⟩) (news := bvals [0]) 1 1 (Rd.of_blk (cs := bvals [0]) (Blk.new w2 5 _) 0) rfl (bvals_one _) (by omega) (by unfold maxLen; omega) (by simp; exact Nat.le_succ_of_le grow2.size); refine wpl_append rfl (.tmp 12) (.tmp 13) 22 22 rfl _ _ rfl rfl hrun3 ?_))
  have HB3 : Hid (Below w.heap.size w w3) := (((Below.refl _ _).grown grow2 (Nat.le_refl _) (by simp [Value.ownBlock])).alloc grow2.size _).grown grow3 (by simp; exact Nat.le_succ_of_le grow2.size) (fun q hq => (own2.lt q hq).1)
  have HO3 : Hid (w3.ownsRow w.heap.size 5 1 v3 (s.size + 1 + 0) (bvals (s.data.toList ++ [0] ++ (numBytes8 n).take 0))) := by
    rw [List.take_zero, List.append_nil, bvals_append, ← strCells_bvals]
    exact own3
  clear own2 own3 grow2 grow3 at3 hrun3
  go_loopw [7, 8] (fun v i wr => ∃ q : Nat, q ≤ 8 ∧ i = .int .i64 (7 - (q : Int)) ∧ wr.ownsRow w.heap.size 5 1 v (s.size + 1 + q) (bvals (s.data.toList ++ [0] ++ (numBytes8 n).take q)) ∧ Below w.heap.size w wr) (fun _ i _ => (intOf i + 1).toNat)
  case atStart => exact ⟨0, by omega, rfl, HO3.out, HB3.out⟩
  case round =>
    clear HO3 HB3
    obtain ⟨q, hq, rfl, hown, hbel⟩ := hrel
    have HO := Lib.hid hown
    have HV := Lib.hid hbel
    clear hown hbel
    by_cases hlt : q < 8
    · have q0 : (0 : Int) ≤ 7 - (q : Int) := by omega
      have q1 : IntKind.i64.wrap (8 * (7 - (q : Int))) = 8 * (7 - (q : Int)) := IntWalk.i64_in _ (by omega)
      have q2 : (8 * (7 - (q : Int))).toNat = 56 - 8 * q := by omega
      have q3 := numByte_val n q
      have q4 : (0 : Int) ≤ 8 * (7 - (q : Int)) := by omega
      have q5 : 8 * (7 - (q : Int)) ≤ 64 := by omega
      have hx := Lib.hid (numBytes8_take n q hlt)
      generalize numByte n q = x at q3 hx
      go_wp2_with (at_builtin; obtain ⟨v5, w5, hrun5, own5, grow5, at5⟩ := app_own byteE 22 (HO.out.alloc (.cells #[.int .u8 (x.toNat : Int)] 5)) (A := some ⟨wr.heap.size, 0, none⟩) (news := bvals [x]) 1 1 (Rd.of_blk (cs := bvals [x]) (Blk.new wr 5 _) 0) rfl (bvals_one _) (by omega) (by unfold maxLen; omega) (by simp; exact Nat.le_succ_of_le HV.out.size); refine wpl_append rfl (.tmp 19) (.tmp 25) 22 22 rfl _ _ rfl rfl hrun5 ?_)
      go_roundw
      case rel =>
        refine ⟨q + 1, by omega, by first | (congr 1; omega) | (simp; omega), ?_, (HV.out.alloc HV.out.size _).grown grow5 (by simp; exact Nat.le_succ_of_le HV.out.size) (fun q hq => (HO.out.lt q hq).1)⟩
        rw [hx.out, ← List.append_assoc, bvals_append _ [x]]
        exact own5
      case measure => simp [intOf]; omega
    · obtain rfl : q = 8 := by omega
      have htk : Hid ((numBytes8 n).take 8 = numBytes8 n) := List.take_of_length_le (by rw [numBytes8_length]; exact Nat.le_refl _)
      rw [htk.out] at HO
      have hdl : (s.data.toList ++ [0] ++ numBytes8 n).length = s.size + 1 + 8 := by
        rw [List.length_append, List.length_append, hsl.out, numBytes8_length]
        rfl
      have hk : Hid (keyOf key s.data.toList n = tagOf key (s.data.toList ++ [0] ++ numBytes8 n)) := rfl
      generalize s.data.toList ++ [0] ++ numBytes8 n = D at *
      have HDL := Lib.hid hdl
      clear hdl
      obtain ⟨A3, c3, rfl, _, _⟩ := own_slice HO.out
      have HR : Hid (Rd wr A3 (bvals D)) := Rd.of_own HO.out
      have HA2 : Hid (Rd wr A (bvals key)) := HA.out.below HV.out
      clear hlt hq
      go_wp2_with fail
      rw [← HDL.out]
      refine (rtag_any A A3 c c3 key D wr HA2.out hkl HR.out (by rw [HDL.out]; omega)).mono ?_
      rintro e w9 ⟨v9, rfl, own9, b9⟩
      have HO9 : Hid (w9.ownsRow w.heap.size 5 1 v9 32 (bvals (tagOf key D))) := own_base own9 HV.out.size
      have HB9 : Hid (Below w.heap.size w w9) := HV.out.trans (b9.mono HV.out.size)
      clear own9 b9
      go_wp2_with fail
      go_ret
      rw [hk.out]
      exact ⟨_, rfl, HO9.out, HB9.out⟩
def zeros8 : List UInt8 := List.replicate 8 0
theorem mkb8 (w : World) : (Instr.makeSlice 22 (.int .i64 8) (.int .i64 8)).run Tryd.prog w = .ok (.slice (some ⟨w.heap.size, 0, none⟩) 8 8) (w.alloc (.cells (bvals zeros8).toArray 5)) := by kernel_rfl
def numTo (n : Int) (k : Nat) : List UInt8 := List.replicate (8 - k) 0 ++ (numBytes8 n).drop (8 - k)
theorem numTo_zero (n : Int) : numTo n 0 = zeros8 := by
  unfold numTo zeros8
  rw [List.drop_eq_nil_of_le (by rw [numBytes8_length]; omega)]
  simp
theorem numTo_eight (n : Int) : numTo n 8 = numBytes8 n := by simp [numTo]
theorem numTo_length (n : Int) (k : Nat) (h : k ≤ 8) : (numTo n k).length = 8 := by
  unfold numTo
  rw [List.length_append, List.length_replicate, List.length_drop, numBytes8_length]
  omega
theorem numTo_set (n : Int) (k : Nat) (h : k < 8) : (bvals (numTo n k)).set (7 - k) (bval (numByte n (7 - k))) = bvals (numTo n (k + 1)) := by
  unfold numTo bvals
  rw [List.map_append, List.map_append, List.set_append_left _ _ (by simp; omega), show 8 - k = (8 - (k + 1)) + 1 by omega, List.replicate_succ', List.map_append, List.set_append_right _ _ (by simp)]
  have e : (numBytes8 n).drop (8 - (k + 1)) = numByte n (7 - k) :: (numBytes8 n).drop (8 - (k + 1) + 1) := by
    rw [List.drop_eq_getElem_cons (by rw [numBytes8_length]; omega)]
    congr 1
    simp [numBytes8]
  rw [e, List.append_assoc]
  simp
theorem u64_wrap (n : Int) : IntKind.u64.wrap n = n % 18446744073709551616 := by
  simp [IntKind.wrap, IntKind.bits, IntKind.signed]
theorem numByte_u64 (n : Int) (k : Nat) (h : k < 8) : IntKind.u64.wrap n / 2 ^ (8 * k) % 256 = ((numByte n (7 - k)).toNat : Int) := by
  rw [← numByte_val, show 56 - 8 * (7 - k) = 8 * k by omega, u64_wrap]
  obtain rfl | rfl | rfl | rfl | rfl | rfl | rfl | rfl : k = 0 ∨ k = 1 ∨ k = 2 ∨ k = 3 ∨ k = 4 ∨ k = 5 ∨ k = 6 ∨ k = 7 := by omega
  all_goals
    simp only [Nat.reduceMul, Int.reducePow]
    omega
theorem bytes_of_cap {P : Program} (w : World) (src dst e : TypeId) (s : ByteArray) (hs : P.underlying src = some .string) (hd : P.underlying dst = some (.slice e)) (he : P.underlying e = some (.int .u8)) (hm : s.size ≤ maxLen) :
    ∃ c w', (convert src dst (.string s)).run P w = .ok (.slice (some ⟨w.heap.size, 0, none⟩) s.size c) w' ∧ Rd w' (some ⟨w.heap.size, 0, none⟩) (bvals s.data.toList) ∧ w.grownBy w' none ∧ w'.heap.size = w.heap.size + 1 ∧ s.size ≤ c ∧ c ≤ maxLen := by
  obtain ⟨c, w', hrun, h1, h2, h3, h4⟩ := bytes_of w src dst e s hs hd he
  refine ⟨c, w', hrun, h1, h2, h3, h4, ?_⟩
  rw [run_bytes_of_string w src dst e s hs hd he] at hrun
  injection hrun with hv _
  injection hv with _ _ hc
  rw [← hc]
  exact grownCap_le_maxLen _ _ _ _ hm
theorem key_parts {w2 : World} {h c2 : Nat} {s : ByteArray} {N : List UInt8} (hb : Blk w2 h 5 (bvals N)) (hN : N.length = 8) {g : Nat} (hr : Rd w2 (some ⟨g, 0, none⟩) (bvals s.data.toList)) (hc : s.size ≤ c2) (hm : c2 ≤ maxLen) :
    Rps ((w2.alloc (.cells #[.int .u8 0] 5)).alloc (.cells #[.slice (some ⟨g, 0, none⟩) s.size c2, .slice (some ⟨w2.heap.size, 0, none⟩) 1 1, .slice (some ⟨h, 0, none⟩) 8 8] 22)) (some ⟨w2.heap.size + 1, 0, none⟩)
      [⟨some ⟨g, 0, none⟩, s.data.toList, c2⟩, ⟨some ⟨w2.heap.size, 0, none⟩, [0], 1⟩, ⟨some ⟨h, 0, none⟩, N, 8⟩] := by
  have e : pvals [⟨some ⟨g, 0, none⟩, s.data.toList, c2⟩, ⟨some ⟨w2.heap.size, 0, none⟩, [0], 1⟩, ⟨some ⟨h, 0, none⟩, N, 8⟩] = [.slice (some ⟨g, 0, none⟩) s.size c2, .slice (some ⟨w2.heap.size, 0, none⟩) 1 1, .slice (some ⟨h, 0, none⟩) 8 8] := by
    simp only [pvals, List.map_cons, List.map_nil, Pt.val, hN]
    rfl
  refine ⟨?_, ?_⟩
  · rw [e]
    exact Rd.of_blk (Blk.new2 w2 (.cells #[.int .u8 0] 5) _ 22) 0
  · intro p hp
    simp only [List.mem_cons, List.not_mem_nil, or_false] at hp
    rcases hp with rfl | rfl | rfl
    · exact ⟨(hr.alloc _).alloc _, hc, hm⟩
    · exact ⟨(Rd.of_blk (cs := bvals [0]) (Blk.new w2 5 _) 0).alloc _, by simp, by simp [maxLen]⟩
    · exact ⟨(Rd.of_blk ((hb.alloc (.cells #[.int .u8 0] 5)).alloc (.cells #[.slice (some ⟨g, 0, none⟩) s.size c2, .slice (some ⟨w2.heap.size, 0, none⟩) 1 1, .slice (some ⟨h, 0, none⟩) 8 8] 22)) 0), by simp [hN], by simp [maxLen]⟩
set_option maxRecDepth 100000 in
set_option maxHeartbeats 2000000 in
theorem key_any (A : Option Addr) (c : Nat) (key : List UInt8) (s : ByteArray) (n : Int) (w : World) (hk : Rd w A (bvals key)) (hkl : key.length ≤ 1000) (hs : s.size ≤ 1000) (hK : HasK w) :
    Calls Tryd.prog 28 #[.slice A key.length c, .string s, .int .i64 n] w fun e w' => ∃ v, e = .returned v ∧ w'.ownsRow w.heap.size 5 1 v 32 (bvals (keyOf key s.data.toList n)) ∧ Below w.heap.size w w' := by
  have HA := Lib.hid hk
  have HK := Lib.hid hK
  clear hk hK
  have hmk := mkb8
  go_enter Tryd.func28, Tryd.ntmps28
  go_wp2_with fail
  clear hmk
  have hB0 : Hid (Blk (w.alloc (.cells (bvals zeros8).toArray 5)) w.heap.size 5 (bvals (numTo n 0))) := by
    rw [numTo_zero]
    exact Blk.new w 5 _
  have hV0 : Hid (Below w.heap.size w (w.alloc (.cells (bvals zeros8).toArray 5))) := (Below.refl _ _).alloc (Nat.le_refl _) _
  have hz0 : w.heap.size < (w.alloc (.cells (bvals zeros8).toArray 5)).heap.size := by simp
  generalize w.alloc (.cells (bvals zeros8).toArray 5) = W1 at *
  go_loopw [12] (fun i wr => ∃ k : Nat, k ≤ 8 ∧ i = .int .i64 (k : Int) ∧ Blk wr w.heap.size 5 (bvals (numTo n k)) ∧ Below w.heap.size w wr) (fun i _ => 8 - (intOf i).toNat)
  case atStart => exact ⟨0, by omega, rfl, hB0.out, hV0.out⟩
  case round =>
    clear hB0 hV0 hz0
    obtain ⟨k, hk, rfl, hB, hV⟩ := hrel
    by_cases hlt : k < 8
    · have hlt' : (k : Int) < 8 := by omega
      have q0 : (0 : Int) ≤ 7 - (k : Int) := by omega
      have q1 : (7 : Int) - (k : Int) < 8 := by omega
      have q2 : (7 - (k : Int)).toNat = 7 - k := by omega
      have q3 : IntKind.i64.wrap (8 * (k : Int)) = 8 * (k : Int) := IntWalk.i64_in _ (by omega)
      have q4 : (0 : Int) ≤ 8 * (k : Int) := by omega
      have q5 : 8 * (k : Int) ≤ 64 := by omega
      have q6 : (8 * (k : Int)).toNat = 8 * k := by omega
      have hcell : wr.cell? ⟨w.heap.size, 7 - k, none⟩ = some (bval ((numTo n k).getD (7 - k) 0)) := by
        rw [hB.cell, bvals_at _ _ (by rw [numTo_length _ _ hk]; omega)]
      have hfz := hB.frozen (7 - k)
      have HB := Lib.hid hB
      have HV := Lib.hid hV
      clear hB hV
      go_wp2_with fail
      go_roundw
      case rel =>
        refine ⟨k + 1, by omega, by go_num, ?_, HV.out.setCell (Nat.le_refl _) _⟩
        rw [numByte_u64 n k hlt, ← numTo_set n k hlt]
        exact HB.out.set_ (7 - k) _
      case measure => simp [intOf]; omega
    · obtain rfl : k = 8 := by omega
      rw [numTo_eight] at hB
      have HB := Lib.hid hB
      have HV := Lib.hid hV
      have hkk : Hid (keyOf key s.data.toList n = tagOf key (s.data.toList ++ [0] ++ numBytes8 n)) := rfl
      have hNl := numBytes8_length n
      generalize numBytes8 n = N at *
      obtain ⟨c2, w2, hrun2, hr2, grow2, hsz2, hc2, hm2⟩ := bytes_of_cap (P := Tryd.prog) wr 9 22 5 s Tryd.underlying9 Tryd.underlying22 Tryd.underlying5 (by unfold maxLen; omega)
      have HR2 := Lib.hid hr2
      have HG2 := Lib.hid grow2
      have HS2 := Lib.hid hsz2
      have HC2 := Lib.hid hc2
      clear hB hV hr2 grow2 hsz2 hlt hk
      have HM2 := Lib.hid hm2
      clear hc2 hm2
      go_wp2_with fail
      have hP := key_parts (HB.out.grown HG2.out (by simp)) hNl HR2.out HC2.out HM2.out
      have hV2 : Below w.heap.size w w2 := HV.out.grown HG2.out HV.out.size (by simp)
      have hV4 := (hV2.alloc hV2.size (.cells #[.int .u8 0] 5)).alloc (by simp; have := hV2.size; omega) (.cells #[.slice (some ⟨wr.heap.size, 0, none⟩) s.size c2, .slice (some ⟨w2.heap.size, 0, none⟩) 1 1, .slice (some ⟨w.heap.size, 0, none⟩) 8 8] 22)
      have hj : joined [⟨some ⟨wr.heap.size, 0, none⟩, s.data.toList, c2⟩, ⟨some ⟨w2.heap.size, 0, none⟩, [0], 1⟩, ⟨some ⟨w.heap.size, 0, none⟩, N, 8⟩] = s.data.toList ++ [0] ++ N := by simp [joined]
      have hjl : (s.data.toList ++ [0] ++ N).length = s.size + 9 := by
        rw [List.length_append, List.length_append, hNl, Array.length_toList]
        rfl
      generalize (w2.alloc (.cells #[.int .u8 0] 5)).alloc (.cells #[.slice (some ⟨wr.heap.size, 0, none⟩) s.size c2, .slice (some ⟨w2.heap.size, 0, none⟩) 1 1, .slice (some ⟨w.heap.size, 0, none⟩) 8 8] 22) = W4 at *
      refine (tag_any A (some ⟨w2.heap.size + 1, 0, none⟩) c 3 key [⟨some ⟨wr.heap.size, 0, none⟩, s.data.toList, c2⟩, ⟨some ⟨w2.heap.size, 0, none⟩, [0], 1⟩, ⟨some ⟨w.heap.size, 0, none⟩, N, 8⟩] W4 (HA.out.below hV4) hkl hP (by simp) (by rw [hj, hjl]; omega) (HK.out.below hV4)).mono ?_
      rintro e w9 ⟨v9, rfl, own9, b9⟩
      rw [hj] at own9
      have HO9 : Hid (w9.ownsRow w.heap.size 5 1 v9 32 (bvals (tagOf key (s.data.toList ++ [0] ++ N)))) := own_base own9 hV4.size
      have HB9 : Hid (Below w.heap.size w w9) := hV4.trans (b9.mono hV4.size)
      clear own9 b9 hj hjl hP hV2 hV4
      go_wp2_with fail
      go_ret
      rw [hkk.out]
      exact ⟨_, rfl, HO9.out, HB9.out⟩
end Go.Proofs.YtleeacgimikdbaaDoor
