/- The reference's digest. -/
import Derived.Test.YtleeacgimikdbaaDoorG
import Derived.Test.YtleeacgimikdbaaDoorR4
namespace Go.Proofs.YtleeacgimikdbaaDoor
open Go.RowKit
attribute [local go_sem ↓] Go.wp_at_zero Go.wp_at_succ
def lenW : Value → Nat
  | .slice _ n _ => n
  | _ => 0
theorem wn_low (x : W32) : IntKind.u8.wrap (wn x) = ((lowByte x).toNat : Int) := by
  unfold wn lowByte
  exact wrap_u8 _
set_option maxRecDepth 100000 in
set_option maxHeartbeats 2000000 in
theorem rsum_any (A : Option Addr) (c : Nat) (bs : List UInt8) (w : World) (hr : Rd w A (bvals bs)) (hn : bs.length ≤ 1000000) :
    Calls Tryd.prog 17 #[.slice A bs.length c] w fun e w' => ∃ v, e = .returned v ∧ w'.ownsRow w.heap.size 5 1 v 32 (bvals (sha bs)) ∧ Below w.heap.size w w' := by
  obtain ⟨m, hm, hm0⟩ := padded_div bs
  have hzz : zerosOf bs.length ≤ 63 := by unfold zerosOf; omega
  have hPL := padded_length bs
  generalize hl : bs.length = n at *
  have hzI : ∀ k, k ≤ zerosOf n → ((n + 1 + k) % 64 = 56 ↔ k = zerosOf n) := by intro k hk; unfold zerosOf at *; omega
  have hPT : ∀ k, PadTo bs k = bs ++ [128] ++ List.replicate (zerosOf n) 0 ++ (be64 (8 * n)).take k := fun k => by unfold PadTo; rw [hl]
  generalize zerosOf n = z at *
  have HL := Lib.hid hl
  have HPL := Lib.hid hPL
  have HM := Lib.hid hm
  have HPT := Lib.hid hPT
  have HZ := Lib.hid hzI
  clear hl hPL hPT hm hzI
  go_enter Tryd.func17, Tryd.ntmps17
  go_wp2_with (first
    | (at_builtin; obtain ⟨v2, w2, hrun2, own2, grow2, at2⟩ := app_own byteE 22 (World.ownsRow_nil w w.heap.size 5 1) n c hr (by rw [bvals_length, HL.out, Nat.mul_one]) (bvals_one bs) (by omega) (by unfold maxLen; omega) (Nat.le_refl _); simp only [Nat.zero_add, List.nil_append] at own2; refine wpl_append rfl (.tmp 10) (.tmp 11) 22 22 rfl _ _ rfl rfl hrun2 ?_)
    | (at_builtin; obtain ⟨v3, w3, hrun3, own3, grow3, at3⟩ := app_own byteE 22 (own2.alloc (.cells #[.int .u8 128] 5)) (A := some ⟨w2.heap.size, 0, none⟩) (news := bvals [128]) 1 1 (Rd.of_blk (cs := bvals [128]) (Blk.new w2 5 _) 0) rfl (bvals_one _) (by omega) (by unfold maxLen; omega) (by simp; exact Nat.le_succ_of_le grow2.size); refine wpl_append rfl (.tmp 13) (.tmp 14) 22 22 rfl _ _ rfl rfl hrun3 ?_))
  have bel3 : Below w.heap.size w w3 :=
    (((Below.refl _ _).grown grow2 (Nat.le_refl _) (by simp [Value.ownBlock])).alloc grow2.size _).grown grow3 (by simp; exact Nat.le_succ_of_le grow2.size) (fun q hq => (own2.lt q hq).1)
  have own3' : w3.ownsRow w.heap.size 5 1 v3 (n + 1 + 0) (bvals (bs ++ [128] ++ List.replicate 0 0)) := by
    rw [List.replicate_zero, List.append_nil, bvals_append]
    exact own3
  clear own2 own3 grow2 grow3 at2 at3 hrun2 hrun3
  have O3 := Lib.hid own3'
  have B3 := Lib.hid bel3
  clear own3' bel3
  go_loopw [3] (fun v wr => ∃ k : Nat, k ≤ z ∧ wr.ownsRow w.heap.size 5 1 v (n + 1 + k) (bvals (bs ++ [128] ++ List.replicate k 0)) ∧ Below w.heap.size w wr) (fun v _ => n + 1 + z - lenW v)
  case atStart => exact ⟨0, by omega, O3.out, B3.out⟩
  case round =>
    clear O3 B3
    obtain ⟨k, hk, hown, hbel⟩ := hrel
    obtain ⟨g, cap, rfl, hgb, hgl, hcap⟩ := own_form hown (by omega)
    have HO := Lib.hid hown
    have HV := Lib.hid hbel
    clear hown hbel
    have hmd : ((n + 1 + k : Nat) : Int) % 64 = (((n + 1 + k) % 64 : Nat) : Int) := by omega
    by_cases hlt : k < z
    · have hne : ¬ (n + 1 + k) % 64 = 56 := fun h => by have := (HZ.out k hk).1 h; omega
      go_wp2_with (at_builtin; obtain ⟨v5, w5, hrun5, own5, grow5, at5⟩ := app_own byteE 22 (HO.out.alloc (.cells #[.int .u8 0] 5)) (A := some ⟨wr.heap.size, 0, none⟩) (news := bvals [0]) 1 1 (Rd.of_blk (cs := bvals [0]) (Blk.new wr 5 _) 0) rfl (bvals_one _) (by omega) (by unfold maxLen; omega) (by simp; exact Nat.le_succ_of_le HV.out.size); refine wpl_append rfl (.tmp 20) (.tmp 21) 22 22 rfl _ _ rfl rfl hrun5 ?_)
      go_roundw
      case rel =>
        refine ⟨k + 1, by omega, ?_, (HV.out.alloc HV.out.size _).grown grow5 (by simp; exact Nat.le_succ_of_le HV.out.size) (fun q hq => (HO.out.lt q hq).1)⟩
        rw [List.replicate_succ', ← List.append_assoc, bvals_append]
        exact own5
      case measure =>
        obtain ⟨g5, cap5, rfl, _⟩ := own_form own5 (by omega)
        simp [lenW]
        omega
    · obtain rfl : k = z := by omega
      have heq : (n + 1 + k) % 64 = 56 := (HZ.out k hk).2 rfl
      have own0 : wr.ownsRow w.heap.size 5 1 (.slice (some ⟨g, 0, none⟩) (n + 1 + k) cap) (n + 1 + k) (bvals (PadTo bs 0)) := by
        rw [HPT.out 0, List.take_zero, List.append_nil]
        exact HO.out
      have O0 := Lib.hid own0
      clear own0
      go_wp2_with fail
      obtain ⟨wo, rfl⟩ : ∃ wo : World, wo = wr := ⟨_, rfl⟩
      clear heq hmd hk
      generalize (((n : Int) + 1 + (k : Int)) % 64 != 56) = sb
      go_loopw [3, 5] (fun v i wr => ∃ q : Nat, q ≤ 8 ∧ i = .int .i64 (7 - (q : Int)) ∧ wr.ownsRow w.heap.size 5 1 v (n + 1 + k + q) (bvals (PadTo bs q)) ∧ Below w.heap.size w wr) (fun _ i _ => (intOf i + 1).toNat)
      case atStart => exact ⟨0, by omega, rfl, O0.out, HV.out⟩
      case round =>
        clear O0 HO HV hgb hgl hcap
        obtain ⟨q, hq, rfl, hown, hbel⟩ := hrel
        have HO := Lib.hid hown
        have HV := Lib.hid hbel
        clear hown hbel
        by_cases hlt : q < 8
        · have q0 : (0 : Int) ≤ 7 - (q : Int) := by omega
          have q1 : IntKind.i64.wrap (8 * (7 - (q : Int))) = 8 * (7 - (q : Int)) := IntWalk.i64_in _ (by omega)
          have q2 : (8 * (7 - (q : Int))).toNat = 56 - 8 * q := by omega
          have q3 : 8 * (n : Int) / 2 ^ (56 - 8 * q) % 256 = ((be64At (8 * n) q).toNat : Int) := by
            rw [← be64At_val n q hlt, Int.mul_comm 8, IntKind.wrap_u8]
          have q4 : (0 : Int) ≤ 8 * (7 - (q : Int)) := by omega
          have q5 : 8 * (7 - (q : Int)) ≤ 64 := by omega
          go_wp2_with (at_builtin; obtain ⟨v5, w5, hrun5, own5, grow5, at5⟩ := app_own byteE 22 (HO.out.alloc (.cells #[.int .u8 ((be64At (8 * n) q).toNat : Int)] 5)) (A := some ⟨wr.heap.size, 0, none⟩) (news := bvals [be64At (8 * n) q]) 1 1 (Rd.of_blk (cs := bvals [be64At (8 * n) q]) (Blk.new wr 5 _) 0) rfl (bvals_one _) (by omega) (by unfold maxLen; omega) (by simp; exact Nat.le_succ_of_le HV.out.size); refine wpl_append rfl (.tmp 30) (.tmp 36) 22 22 rfl _ _ rfl rfl hrun5 ?_)
          go_roundw
          case rel =>
            refine ⟨q + 1, by omega, by first | (congr 1; omega) | (simp; omega), ?_, (HV.out.alloc HV.out.size _).grown grow5 (by simp; exact Nat.le_succ_of_le HV.out.size) (fun q hq => (HO.out.lt q hq).1)⟩
            rw [PadTo_succ bs q hlt, bvals_append, HL.out]
            exact own5
          case measure => simp [intOf]; omega
        · have hq8 : Hid (q = 8) := by unfold Hid; omega
          have hp : Hid (padded bs = padded bs) := rfl
          have hL : Hid (n + 1 + k + q = 64 * m) := by have := hq8.out; have := HPL.out; have := HM.out; unfold Hid; omega
          have hown := HO.out
          rw [hq8.out, PadTo_8, ← hq8.out, hL.out] at hown
          have hpl : (padded bs).length = 64 * m := HM.out
          obtain ⟨g, cap, rfl, hgb, hgl, hcap⟩ := own_form hown (by omega)
          have hgc : Hid (∀ j, j < 64 * m → wr.cell? ⟨g, j, none⟩ = some (bval ((padded bs).getD j 0))) := fun j hj => by
            rw [hown.cellAt j (by omega), bvals_at _ j (by omega)]
          have hG : Hid (g < wr.heap.size) := hgl
          have hC : Hid (64 * m ≤ cap) := hcap
          have hS : Hid (sha bs = (stTo (padded bs) m).words.flatMap bytesOf) := by
            unfold Hid sha
            rw [hpl, Nat.mul_div_cancel_left _ (by decide)]
          have hmm : 64 * m ≤ 1000072 := by have := HPL.out; omega
          generalize padded bs = p at *
          clear HO hown hgb hgl hcap
          go_wp2_with fail
          generalize hW : wr.alloc _ = W2
          have hB2 : Below w.heap.size w W2 := by rw [← hW]; exact HV.out.alloc HV.out.size _
          have hv2 : ∀ j, j < 8 → W2.cell? ⟨wr.heap.size, j, none⟩ = some (wcell ((stTo p 0).words.getD j 0)) := by
            rw [← hW]
            have hb := Blk.new wr 3 (wcells init.words)
            intro j hj
            exact (hb.cell j).trans (wcells_at _ _ hj)
          have hgc2 : Hid (∀ j, j < 64 * m → W2.cell? ⟨g, j, none⟩ = some (bval (p.getD j 0))) := fun j hj => by
            rw [← hW, World.cell?_alloc_lt _ _ _ hG.out]; exact hgc.out j hj
          have hG2 : Hid (g < W2.heap.size) := by rw [← hW]; unfold Hid; simp; exact Nat.lt_succ_of_lt hG.out
          have hV2 : Hid (wr.heap.size < W2.heap.size) := by rw [← hW]; unfold Hid; simp
          have HV2 := Lib.hid hB2
          generalize wr.heap.size = gs0 at *
          clear hB2 hgc hG HV hW
          go_loopw [6, 7] (fun v i wr => ∃ t : Nat, t ≤ m ∧ i = .int .i64 (64 * (t : Int)) ∧ ∃ gs cs, v = .slice (some ⟨gs, 0, none⟩) 8 cs ∧ gs < wr.heap.size ∧ (∀ j, j < 8 → wr.cell? ⟨gs, j, none⟩ = some (wcell ((stTo p t).words.getD j 0))) ∧ Below W2.heap.size W2 wr) (fun _ i _ => (64 * (m : Int) - intOf i).toNat)
          case atStart => exact ⟨0, by omega, rfl, gs0, 8, rfl, hV2.out, hv2, Below.refl _ _⟩
          case round =>
            clear hv2 hV2
            obtain ⟨t, ht, rfl, gs, cs, rfl, hgs, hv, hbel⟩ := hrel
            have HV := Lib.hid hbel
            have HC := Lib.hid hv
            clear hbel hv
            by_cases hlt4 : t < m
            · have c1 : 64 * (t : Int) < 64 * (m : Int) := by omega
              have c2 : (0 : Int) ≤ 64 * (t : Int) := by omega
              have c3 : IntKind.i64.wrap (64 * (t : Int) + 64) = 64 * (t : Int) + 64 := IntWalk.i64_in _ (by omega)
              have c4 : (64 * (t : Int)).toNat = 64 * t := by omega
              have c5 : (64 * (t : Int) + 64).toNat = 64 * t + 64 := by omega
              have c6 : 64 * (t : Int) ≤ 64 * (t : Int) + 64 := by omega
              have c7 : 64 * (t : Int) + 64 ≤ (cap : Int) := by have := hC.out; omega
              go_wp2_with fail
              refine (rblock_any (stTo p t) g (64 * t) _ gs 0 cs ((p.drop (64 * t)).take 64) wr ?l1 ?l2 ?l3 ?l4 ?l5).mono ?_
              case l1 => rw [List.length_take, List.length_drop, HM.out]; omega
              case l2 => exact Nat.lt_of_lt_of_le hG2.out HV.out.size
              case l3 => exact hgs
              case l4 => exact fun j hj => by rw [blk_cells hj]; exact (HV.out.cell (p := ⟨g, 64 * t + j, none⟩) hG2.out).trans (hgc2.out _ (by omega))
              case l5 => exact fun j hj => by rw [Nat.zero_add]; exact HC.out j hj
              rintro e W3 ⟨v, rfl, own3, bel3⟩
              rw [show blockOf (stTo p t) ((p.drop (64 * t)).take 64) = stTo p (t + 1) from rfl] at own3
              obtain ⟨gs3, cs3, rfl, _, hgs3, _⟩ := own_form own3 (by omega)
              have hcl : Hid (∀ j, j < 8 → W3.cell? ⟨gs3, j, none⟩ = some (wcell ((stTo p (t + 1)).words.getD j 0))) := fun j hj => by
                rw [own3.cellAt j (by omega), wcells_at _ _ hj]
                rfl
              have hB3 : Hid (Below W2.heap.size W2 W3) := HV.out.trans (bel3.mono HV.out.size)
              clear own3 bel3 HV HC
              go_wp2_with fail
              go_roundw
              case rel =>
                exact ⟨t + 1, by omega, by first | (congr 1; omega) | (simp; omega), gs3, cs3, rfl, hgs3, hcl.out, hB3.out⟩
              case measure => simp [intOf]; omega
            · obtain htm : t = m := by omega
              rw [htm] at HC
              have hB2 : Hid (Below w.heap.size w wr) := HV2.out.trans (HV.out.mono HV2.out.size)
              have hsl : (stTo p m).words.length = 8 := rfl
              generalize stTo p m = s at *
              clear HV HV2 hgc2 hG2
              go_wp2_with fail
              obtain ⟨wo, rfl⟩ : ∃ wo : World, wo = wr := ⟨_, rfl⟩
              clear hlt4 htm
              try (generalize decide (64 * (t : Int) < 64 * (m : Int)) = sb2)
              try (generalize decide ((64 : Int) * t < 64 * m) = sb3)
              go_loopw [8, 9] (fun v i wx => ∃ k : Nat, k ≤ 8 ∧ i = .int .i64 (k : Int) ∧ wx.ownsRow wo.heap.size 5 1 v (4 * k) (bvals ((s.words.take k).flatMap bytesOf)) ∧ Below wo.heap.size wo wx) (fun _ i _ => 8 - (intOf i).toNat)
              case atStart => exact ⟨0, by omega, rfl, World.ownsRow_nil _ _ _ _, Below.refl _ _⟩
              case round =>
                obtain ⟨k8, hk8, rfl, hown, hb⟩ := hrel
                by_cases hk : k8 < 8
                · have hx : Hid ((s.words.take (k8 + 1)).flatMap bytesOf = (s.words.take k8).flatMap bytesOf ++ bytesOf (s.words.getD k8 0)) := by
                    unfold Hid
                    rw [List.take_succ_eq_append_getElem (by omega), List.flatMap_append, List.getD_eq_getElem?_getD, List.getElem?_eq_getElem (by omega)]
                    simp
                  have c0 : wr.cell? ⟨gs, k8, none⟩ = _ := (hb.cell (p := ⟨gs, k8, none⟩) hgs).trans (HC.out k8 hk)
                  unfold wcell at c0
                  generalize s.words.getD k8 0 = x at *
                  have HN : Hid (u8.ownBlock ≠ some gs) := fun h => by
                    have := (hown.lt _ h).1
                    omega
                  have HG : Hid (gs < wr.heap.size) := Nat.lt_of_lt_of_le hgs hb.size
                  have HO := Lib.hid hown
                  have HV := Lib.hid hb
                  have C0 := Lib.hid c0
                  clear hown hb
                  have e4 : (k8 : Int) < 8 := by omega
                  have e5 : (0 : Int) ≤ (k8 : Int) := by omega
                  have y0 := wn_low x
                  have y1 := wn_low (x >>> 8)
                  have y2 := wn_low (x >>> 16)
                  have y3 := wn_low (x >>> 24)
                  go_wp2_with fail
                  go_region_held3 (fun w' => w'.cell? ⟨gs, k8, none⟩ = some (.int .i64 (wn x))) (first | go_keep | exact keep5 _ _ _ (.inl HN.out) ((World.cell?_alloc_lt wr _ _ HG.out).trans C0.out)) (first | ((go_at_call 33; refine (moved_any _ _ _ (by omega) (by omega)).mono ?_; rintro e w' ⟨rfl, rfl⟩)) | ((obtain ⟨v5, w5, hrun5, own5, grow5, at5, keep5⟩ := app_keep (w := (wr.alloc (.cells #[.int .u8 ((lowByte (x >>> 24)).toNat : Int), .int .u8 ((lowByte (x >>> 16)).toNat : Int), .int .u8 ((lowByte (x >>> 8)).toNat : Int), .int .u8 ((lowByte x).toNat : Int)] 5)).drew) byteE 22 (HO.out.alloc _) (A := some ⟨wr.heap.size, 0, none⟩) (news := bvals (bytesOf x)) 4 4 ((Rd.of_blk (cs := bvals (bytesOf x)) (Blk.new wr 5 _) 0).drew) rfl (bvals_one _) (by omega) (by unfold maxLen; omega) (by simp; exact Nat.le_succ_of_le HV.out.size); refine step_append (by rfl) (.tmp 56) (.tmp 80) 22 22 (by rfl) _ _ (by rfl) (by rfl) hrun5 ?_)))
                  go_wp2
                  go_roundw
                  case rel =>
                    refine ⟨k8 + 1, by omega, by go_num, ?_, (HV.out.alloc HV.out.size _).drew.grown grow5 (by simp; exact Nat.le_succ_of_le HV.out.size) (fun q hq => (HO.out.lt q hq).1)⟩
                    rw [hx.out, bvals_append]
                    exact own5
                  case measure => simp [intOf]; omega
                · obtain rfl : k8 = 8 := by omega
                  go_wp2_with fail
                  go_ret
                  refine ⟨_, rfl, ?_, hB2.out.trans (hb.mono hB2.out.size)⟩
                  rw [hS.out]
                  rw [List.take_of_length_le (by omega)] at hown
                  exact own_base hown hB2.out.size
end Go.Proofs.YtleeacgimikdbaaDoor
