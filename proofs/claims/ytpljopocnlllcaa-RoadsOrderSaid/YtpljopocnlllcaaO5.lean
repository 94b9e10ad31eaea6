/- RoadsOrder. -/
import Derived.Test.YtpljopocnlllcaaOR
namespace Go.Proofs.Ytpljopocnlllcaa
open Go.RowKit
attribute [local go_sem ↓] Go.wp_at_zero Go.wp_at_succ
set_option maxRecDepth 100000 in
set_option maxHeartbeats 16000000 in
theorem order_any (A : Option Addr) (c : Nat) (l : List Dd) (A2 : Option Addr) (c2 : Nat) (ks : List Int) (w : World) (h : DeedsAt w A l) (h2 : Rd w A2 (ivals ks)) (hks : ∀ z ∈ ks, -9223372036854775808 ≤ z ∧ z ≤ 9223372036854775807) (hl : l.length ≤ maxLen) (hl2 : ks.length ≤ maxLen) :
    Calls Try.prog 5 #[.slice A l.length c, .slice A2 ks.length c2] w (Lived w) := by
  unfold maxLen at hl hl2
  generalize hn : l.length = m at hl ⊢
  generalize hn2 : ks.length = m2 at hl2 ⊢
  have HN := Lib.hid hn
  have HN2 := Lib.hid hn2
  have HD := Lib.hid h
  have HD2 := Lib.hid h2
  have HKS := Lib.hid hks
  clear hn hn2 h h2 hks
  go_enter Try.func5, Try.ntmps5
  go_wp2_with fail
  refine (new_any 2 w (by omega) (by omega)).mono ?_
  rintro e w1 ⟨p, F, rfl, hr1, hlo1, hb1⟩
  have HR1 := Lib.hid hr1
  have HK1 := Lib.hid hb1
  have HL := Lib.hid hlo1
  clear hr1 hb1 hlo1
  go_wp2_with fail
  go_loopw [6, 7] (fun v i wr => InvO w.heap.size w p m v i wr) (fun _ i _ => 119 - (intOf i).toNat)
  case atStart => exact ⟨0, [], F, by omega, by omega, rfl, rfl, (fun z hz => by simp at hz), World.ownsRow_nil _ _ _ _, HR1.out, HL.out, (fun b hb => by simp [Value.ownBlock] at hb), HK1.out⟩
  case round =>
    clear HR1 HK1 HL
    obtain ⟨k, zs, F, hk, hk1, rfl, hzl, hokz, hown, hr, hlo, hap, hb⟩ := hrel
    have HZL := Lib.hid hzl
    have HOZ := Lib.hid hokz
    have HO := Lib.hid hown
    have HR := Lib.hid hr
    have HL := Lib.hid hlo
    have HAP := Lib.hid hap
    have HB := Lib.hid hb
    have HSZ : Hid (w.heap.size ≤ wr.heap.size) := hb.size
    clear hzl hokz hown hr hlo hap hb
    by_cases hlt : k < m ∧ k < 119
    · obtain ⟨hkn, hk100⟩ := hlt
      have hkn' : (k : Int) < (m : Int) := by omega
      have hk100' : (k : Int) < 119 := by omega
      obtain ⟨b, off, rfl, hbl, hc, hok⟩ := HD.out.at_ k (by rw [HN.out]; exact hkn)
      generalize (l[k]'(by rw [HN.out]; exact hkn)) = d at hc hok
      have HOK := Lib.hid (hok.below HB.out)
      have hc' : ∀ j v, d.cells[j]? = some v → wr.cell? ⟨b, off + k * 7 + j, none⟩ = some v := fun j v hv => (World.cell?_of_block (w := w) (a := ⟨b, off + k * 7 + j, none⟩) (HB.out.block b hbl)).trans (hc j v hv)
      obtain ⟨kind, N, to, place, sa, sk, sc, da, bs, dc, stays⟩ := d
      have x0 := hc' 0 _ rfl
      have x1 := hc' 1 _ rfl
      have x2 := hc' 2 _ rfl
      have x3 := hc' 3 _ rfl
      have x4 := hc' 4 _ rfl
      have x5 := hc' 5 _ rfl
      have x6 := hc' 6 _ rfl
      rw [Nat.add_zero] at x0
      clear hc hok hc' hbl
      go_wp2_with fail
      refine (cut_any ⟨kind, N, to, place, sa, sk, sc, da, bs, dc, stays⟩ wr HOK.out).mono ?_
      rintro e w2 ⟨rfl, hb2⟩
      have HOK2 : Hid (Dd.ok w2 (Dd.cut ⟨kind, N, to, place, sa, sk, sc, da, bs, dc, stays⟩)) := HOK.out.cut.below hb2
      have HB2 : Hid (Below w.heap.size w w2) := HB.out.trans (hb2.mono HSZ.out)
      have HR2 : Hid (Rep 51 64 w2 p (ord zs) F) := HR.out.below hb2
      have HO2 : Hid (w2.ownsRow w.heap.size 3 1 u6 k (ivals (lefts zs))) := own_below HO.out hb2
      rw [show (Dd.cut ⟨kind, N, to, place, sa, sk, sc, da, bs, dc, stays⟩).cells.toArray = #[.int .i64 kind, .int .i64 N, .int .i64 to, .int .i64 place, .slice sa (sk.take 20).length sc, .slice da (bs.take 20).length dc, .bool stays] from rfl]
      have HDT : Hid (Rd w2 da (bvals (bs.take 20)) ∧ (bs.take 20).length ≤ 20) := ⟨HOK2.out.rd, by simp; omega⟩
      clear x0 x1 x2 x3 x4 x5 x6 HOK HOK2 HB HR HSZ hb2 HO
      generalize sk.take 20 = sk2 at *
      generalize bs.take 20 = bs2 at *
      have hwu : IntKind.u8.wrap (k : Int) = (k : Int) := wrap_u8_small k (by omega)
      have HW3 : Hid (Rd ((w2.alloc (.cells #[.int .i64 kind, .int .i64 N, .int .i64 to, .int .i64 place, .slice sa sk2.length sc, .slice da bs2.length dc, .bool stays] 32)).alloc (.cells #[.int .u8 (k : Int)] 5)) (some ⟨w2.heap.size + 1, 0, none⟩) (bvals [UInt8.ofNat k])) := by
        rw [u8_small k (by omega)]
        have := Rd.newM (w2.alloc (.cells #[.int .i64 kind, .int .i64 N, .int .i64 to, .int .i64 place, .slice sa sk2.length sc, .slice da bs2.length dc, .bool stays] 32)) 5 [.int .u8 (k : Int)] (0, 0)
        rw [show (w2.alloc (.cells #[.int .i64 kind, .int .i64 N, .int .i64 to, .int .i64 place, .slice sa sk2.length sc, .slice da bs2.length dc, .bool stays] 32)).heap.size = w2.heap.size + 1 by simp] at this
        exact this
      have HX3 : Hid (((w2.alloc (.cells #[.int .i64 kind, .int .i64 N, .int .i64 to, .int .i64 place, .slice sa sk2.length sc, .slice da bs2.length dc, .bool stays] 32)).alloc (.cells #[.int .u8 (k : Int)] 5)).cell? ⟨w2.heap.size, 5, none⟩ = some (.slice da bs2.length dc)) := by
        have := (Blk.new w2 32 [.int .i64 kind, .int .i64 N, .int .i64 to, .int .i64 place, .slice sa sk2.length sc, .slice da bs2.length dc, .bool stays]).alloc (.cells #[.int .u8 (k : Int)] 5)
        exact this.cell 5
      have HZ2 : Hid (w.heap.size ≤ w2.heap.size) := HB2.out.size
      go_wp2_with (at_builtin; first | (obtain ⟨v5, w5, hrun5, own5, grow5, at5⟩ := app_own byteE 30 (World.ownsRow_nil ((w2.alloc (.cells #[.int .i64 kind, .int .i64 N, .int .i64 to, .int .i64 place, .slice sa sk2.length sc, .slice da bs2.length dc, .bool stays] 32)).alloc (.cells #[.int .u8 (k : Int)] 5)) w2.heap.size 5 1) (A := some ⟨w2.heap.size + 1, 0, none⟩) (news := bvals [UInt8.ofNat k]) 1 1 HW3.out rfl (bvals_one _) (by omega) (by unfold maxLen; omega) (by simp; omega); refine wpl_append rfl (.tmp 35) (.tmp 38) 30 30 rfl _ _ rfl rfl hrun5 ?_; clear hrun5; have x5 := grow5.cell HX3.out (by simp [Value.ownBlock]); have HB5 : Hid (Below w2.heap.size w2 w5) := (((Below.refl _ _).alloc (Nat.le_refl _) _).alloc (by simp) _).grown grow5 (by simp; omega) (fun g hg => by simp [Value.ownBlock] at hg); have HD5 : Hid (Rd w5 da (bvals bs2)) := HDT.out.1.below HB5.out; have HO5 := Lib.hid own5; simp only [Nat.zero_add, List.nil_append] at HO5; have HZ5 : Hid (w2.heap.size ≤ w5.heap.size) := HB5.out.size; have HL5 : Hid (bs2.length ≤ 20) := HDT.out.2; clear own5 grow5 at5 HX3 HW3 HDT) | (obtain ⟨v6, w6, hrun6, own6, grow6, at6⟩ := app_own byteE 30 HO5.out (A := da) (news := bvals bs2) bs2.length dc HD5.out (by rw [bvals_length, Nat.mul_one]) (bvals_one _) (by have := HL5.out; omega) (by have := HL5.out; unfold maxLen; omega) HZ5.out; refine wpl_append rfl (.tmp 40) (.tmp 42) 30 30 rfl _ _ rfl rfl hrun6 ?_; clear hrun6; have HO6 := Lib.hid own6; have HG6 : Hid (w5.grownBy w6 v5.ownBlock) := grow6; have HS6 : Hid (Below w2.heap.size w2 w6) := HB5.out.grown grow6 HZ5.out (fun g hg => (HO5.out.lt g hg).1); clear own6 grow6 at6 x5))
      obtain ⟨A6, c6, rfl, _, _⟩ := own_slice HO6.out
      have HR6 : Hid (Rd w6 A6 (bvals (UInt8.ofNat k :: bs2))) := by
        have := Rd.of_own HO6.out
        rw [← bvals_append] at this
        exact this
      have HF6 : Hid (Rep 51 64 w6 p (ord zs) F) := HR2.out.below HS6.out
      have HO6' : Hid (w6.ownsRow w.heap.size 3 1 u6 k (ivals (lefts zs))) := own_below HO2.out HS6.out
      have HB6 : Hid (Below w.heap.size w w6) := HB2.out.trans (HS6.out.mono HZ2.out)
      rw [show Value.slice A6 (1 + bs2.length) c6 = Value.slice A6 (UInt8.ofNat k :: bs2).length c6 from by simp; omega, show (1 + (k : Int) % 2) = 1 + ((k % 2 : Nat) : Int) from by omega]
      clear HB2 HR2 HO2 HO6 HG6 HS6 HB5 HD5 HO5 HZ5 HZ2
      refine (send_any _ _ c6 (UInt8.ofNat k :: bs2) HF6.out (ord_good zs (by have := HZL.out; omega)) HR6.out (by have := HL5.out; simp; omega) (by simp [isB, ord]; omega)).mono ?_
      rintro e w7 ⟨rfl, F7, hr7, hk7, hg7⟩
      rw [ord_send zs k bs2 (by have := HZL.out; omega)] at hr7
      have HR7 := Lib.hid hr7
      have HO7 : Hid (w7.ownsRow w.heap.size 3 1 u6 k (ivals (lefts zs))) := own_keep HO6'.out fun g hg => hk7.block (HO6'.out.lt g hg).2 (HAP.out g hg)
      have HAP7 : Hid (∀ b, u6.ownBlock = some b → ¬ F7 b) := fun g hg hF => by
        rcases hg7 g hF with h | h
        · exact HAP.out g hg h
        · have := (HO6'.out.lt g hg).2; omega
      have HB7 : Hid (Below w.heap.size w w7) := HB6.out.trans (hk7.below HL.out HB6.out.size)
      have HL7 : Hid (∀ b, F7 b → w.heap.size ≤ b) := lo_grew HL.out hg7 HB6.out.size
      have HK7 : Hid (Rd (w7.alloc (.cells #[.int .i64 (k : Int)] 3)) (some ⟨w7.heap.size, 0, none⟩) (ivals [(k : Int)])) := Rd.newM w7 3 (ivals [(k : Int)]) (0, 0)
      have HZ7 : Hid (w.heap.size ≤ w7.heap.size) := HB7.out.size
      clear hr7 hk7 hg7 HR6 HF6 HO6' HB6 HL HAP
      go_wp2_with (at_builtin; obtain ⟨v8, w8, hrun8, own8, grow8, at8⟩ := app_own intE 29 (HO7.out.alloc (.cells #[.int .i64 (k : Int)] 3)) (A := some ⟨w7.heap.size, 0, none⟩) (news := ivals [(k : Int)]) 1 1 HK7.out rfl (ivals_one _) (by omega) (by unfold maxLen; omega) (by simp; exact Nat.le_succ_of_le HZ7.out); refine wpl_append rfl (.tmp 51) (.tmp 53) 29 29 rfl _ _ rfl rfl hrun8 ?_; clear hrun8)
      have HO8 : Hid (w8.ownsRow w.heap.size 3 1 v8 (k + 1) (ivals (lefts (zs ++ [(k, bs2)])))) := by
        rw [lefts_add, ivals_append]
        exact own8
      have HR8 : Hid (Rep 51 64 w8 p (ord (zs ++ [(k, bs2)])) F7) := (HR7.out.alloc _).kept (G := fun g => u6.ownBlock = some g) ((Kept.refl _ _).grown grow8 (fun g hg => .inl hg)) (fun g hF hg => HAP7.out g hg hF)
      have HAP8 : Hid (∀ b, v8.ownBlock = some b → ¬ F7 b) := fun g hg hF => by
        rcases at8 with h | h
        · exact HAP7.out g (h ▸ hg) hF
        · rw [h] at hg
          have := HR7.out.lt g hF
          simp at hg
          omega
      have HB8 : Hid (Below w.heap.size w w8) := (HB7.out.alloc HZ7.out _).grown grow8 (by simp; exact Nat.le_succ_of_le HZ7.out) (fun g hg => (HO7.out.lt g hg).1)
      have HOK8 : Hid (okz (zs ++ [(k, bs2)])) := okz_add HOZ.out (by omega) HL5.out
      clear own8 grow8 at8 HO7 HR7 HAP7 HB7 HK7 HZ7
      go_roundw
      case rel => exact ⟨k + 1, zs ++ [(k, bs2)], F7, by omega, by omega, by go_num, by simp [HZL.out], HOK8.out, HO8.out, HR8.out, HL7.out, HAP8.out, HB8.out⟩
      case measure => simp [intOf]; omega
    · have hx : ¬ (k : Int) < (m : Int) ∨ ((k : Int) < (m : Int) ∧ ¬ (k : Int) < 119) := by omega
      have HZK : Hid (zs.length ≤ 119) := by have := HZL.out; unfold Hid; omega
      have HO' : Hid (wr.ownsRow w.heap.size 3 1 u6 zs.length (ivals (lefts zs))) := by unfold Hid; rw [HZL.out]; exact HO.out
      clear hlt hk hk1 HD HN hl HZL HO HSZ
      rcases hx with hx | ⟨hx, hx2⟩
      all_goals
        go_wp2_with fail
        go_loopw [6, 10] (fun v i wr => InvP w.heap.size w p m2 v i wr) (fun _ i _ => 60 - (intOf i).toNat)
        case atStart => exact ⟨0, zs, F, by omega, by omega, rfl, HZK.out, HOZ.out, HO'.out, HR.out, HL.out, HAP.out, HB.out⟩
        case round =>
          clear HZK HOZ HO' HR HL HAP HB hx
          clear zs F
          obtain ⟨j, zs, F, hj, hj1, rfl, hzl, hokz, hown, hr, hlo, hap, hb⟩ := hrel
          have HZL : Hid (zs.length ≤ 119) := hzl
          have HOZ := Lib.hid hokz
          have HR := Lib.hid hr
          have HL := Lib.hid hlo
          have HAP := Lib.hid hap
          have HB := Lib.hid hb
          have HSZ : Hid (w.heap.size ≤ wr.heap.size) := hb.size
          have HO := Lib.hid hown
          clear hzl hokz hown hr hlo hap hb
          by_cases hlt : j < m2 ∧ j < 60 ∧ 0 < zs.length
          · obtain ⟨hjn, hj60, hzp⟩ := hlt
            have hjn' : (j : Int) < (m2 : Int) := by omega
            have hj60' : (j : Int) < 60 := by omega
            obtain ⟨g, cap, rfl, hgB, hgl, hcap⟩ := own_form HO.out hzp
            obtain ⟨b2, o2, rfl, _, hc2⟩ := (HD2.out.below HB.out).at (j := j) (by rw [ivals_length, HN2.out]; exact hjn)
            have hc3 := hc2 j _ (ivals_at _ _ (by rw [HN2.out]; exact hjn))
            have hzb := HKS.out (ks.getD j 0) (by rw [List.getD_eq_getElem?_getD, List.getElem?_eq_getElem (by rw [HN2.out]; exact hjn)]; exact List.getElem_mem _)
            generalize ks.getD j 0 = z at hc3 hzb
            have hq := pick_lt z zs.length hzp
            have HPK := Lib.hid (pick_any z zs.length wr hzb.1 hzb.2 hzp (by have := HZL.out; omega))
            generalize pickF z zs.length = q at *
            have HDR := Lib.hid (drop_any q _ _ HR.out (ord_good zs (by have := HZL.out; omega)) (ord_at zs q hq) (by have := (HOZ.out _ (List.getElem_mem hq)).2; simp; omega))
            have HQ := Lib.hid hq
            have hz0 : ¬ (zs.length : Int) = 0 := by omega
            clear hc2 hzb hq
            generalize hnz : zs.length = n at *
            have HNZ := Lib.hid hnz
            clear hnz
            go_wp2_with fail
            refine HPK.out.mono ?_
            rintro e w' ⟨rfl, rfl⟩
            clear HPK
            go_wp2_with fail
            refine HDR.out.mono ?_
            clear HDR
            rintro e w3 ⟨rfl, F3, hr3, hk3, hg3⟩
            rw [ord_erase] at hr3
            have HR3 := Lib.hid hr3
            have HO3 : Hid (w3.ownsRow w.heap.size 3 1 (.slice (some ⟨g, 0, none⟩) n cap) n (ivals (lefts zs))) := own_keep HO.out fun b hb => hk3.block (HO.out.lt b hb).2 (HAP.out b hb)
            have HB3 : Hid (Below w.heap.size w w3) := HB.out.trans (hk3.below HL.out HSZ.out)
            have HL3 : Hid (∀ b, F3 b → w.heap.size ≤ b) := lo_grew HL.out hg3 HSZ.out
            have HZ3 : Hid (w.heap.size ≤ w3.heap.size) := HB3.out.size
            have HRD3 : Hid (Rd w3 (some ⟨g, 0, none⟩) (ivals ((lefts zs).take q))) := by
              have := (Rd.of_own HO3.out).take q
              rw [ivals, ← List.map_take] at this
              exact this
            have HRF3 : Hid (Rd w3 (if cap = q + 1 then some ⟨g, 0, none⟩ else some ⟨g, q + 1, none⟩) (ivals ((lefts zs).drop (q + 1)))) := by
              have := Rd.from_ (size := 1) (a := q + 1) (Rd.of_own HO3.out) HO3.out.1 hcap
              rw [Nat.mul_one, ivals, ← List.map_drop] at this
              split
              · rw [if_pos (by assumption)] at this
                exact this
              · rw [if_neg (by assumption)] at this
                refine (show Rd w3 (some ⟨g, q + 1, none⟩) (ivals ((lefts zs).drop (q + 1))) from ?_)
                unfold ivals
                simpa [Addr.add_lit] using this
            have hw1 : IntKind.i64.wrap ((q : Int) + 1) = (q : Int) + 1 := by rw [IntWalk.i64_in _ (by have := HZL.out; have := HQ.out; omega)]
            have hqn := HQ.out
            have k0 : (0 : Int) ≤ (q : Int) := by omega
            have k1 : (q : Int) ≤ (cap : Int) := by omega
            have k2 : (q : Int) + 1 ≤ (n : Int) := by omega
            have k3 : (0 : Int) ≤ (q : Int) + 1 := by omega
            have k4 : ((q : Int) + 1).toNat = q + 1 := by omega
            have HNT : Hid ((ivals ((lefts zs).take q)).length = q * 1) := by have := HNZ.out; unfold Hid; rw [ivals_length, List.length_take, lefts_length]; omega
            clear HO HR HB HL HSZ hr3 hk3 hg3 HQ hj60' hjn' hz0 hgl hgB
            by_cases hcap2 : cap = q + 1
            · obtain rfl : n = q + 1 := by omega
              subst hcap2
              rw [if_pos rfl] at HRF3
              have HND : Hid ((ivals ((lefts zs).drop (q + 1))).length = 0 * 1) := by have := HNZ.out; unfold Hid; rw [ivals_length, List.length_drop, lefts_length]; omega
              go_wp2_with (at_builtin; first | (obtain ⟨v4, w4, hrun4, own4, grow4, at4⟩ := app_own intE 29 (World.ownsRow_nil w3 w.heap.size 3 1) (A := some ⟨g, 0, none⟩) (news := ivals ((lefts zs).take q)) q (q + 1) HRD3.out HNT.out (ivals_one _) (by have := HZL.out; omega) (by have := HZL.out; unfold maxLen; omega) HZ3.out; refine wpl_append rfl (.tmp 79) (.tmp 82) 29 29 rfl _ _ rfl rfl hrun4 ?_; clear hrun4; have HO4 := Lib.hid own4; simp only [Nat.zero_add, List.nil_append] at HO4; have HG4 : Hid (w3.grownBy w4 Option.none) := grow4; have HAT4 : Hid (v4.ownBlock = Option.none ∨ v4.ownBlock = some w3.heap.size) := at4; have HB4 : Hid (Below w3.heap.size w3 w4) := (Below.refl _ _).grown grow4 (Nat.le_refl _) (fun b hb => by simp [Value.ownBlock] at hb); have HRF4 := Lib.hid (HRF3.out.below HB4.out); have HZ4 : Hid (w.heap.size ≤ w4.heap.size) := Nat.le_trans HZ3.out HB4.out.size; clear own4 grow4 at4 HRD3 HNT HRF3) | (obtain ⟨v5, w5, hrun5, own5, grow5, at5⟩ := app_own intE 29 HO4.out (A := some ⟨g, 0, none⟩) (news := ivals ((lefts zs).drop (q + 1))) 0 0 HRF4.out HND.out (ivals_one _) (by have := HZL.out; omega) (by have := HZL.out; unfold maxLen; omega) HZ4.out; refine wpl_append rfl (.tmp 84) (.tmp 88) 29 29 rfl _ _ rfl rfl hrun5 ?_; clear hrun5; have HO5 := Lib.hid own5; have HG5 := Lib.hid grow5; have HAT5 := Lib.hid at5; clear own5 grow5 at5))
              have HR5 : Hid (Rep 51 64 w5 p (ord (zs.eraseIdx q)) F3) := by
                have h4 : Rep 51 64 w4 p (ord (zs.eraseIdx q)) F3 := HR3.out.below HB4.out
                refine h4.kept (G := fun b => v4.ownBlock = some b) ((Kept.refl _ _).grown HG5.out (fun b hb => .inl hb)) (fun b hF hb => ?_)
                have := HR3.out.lt b hF
                rcases HAT4.out with h | h
                · rw [h] at hb; cases hb
                · rw [h] at hb
                  injection hb with hb
                  omega
              have HAP5 : Hid (∀ b, v5.ownBlock = some b → ¬ F3 b) := fun b hb hF => by
                have h1 := HR3.out.lt b hF
                have h2 := HB4.out.size
                rcases HAT5.out with h | h
                · rw [h] at hb
                  rcases HAT4.out with h' | h'
                  · rw [h'] at hb; cases hb
                  · rw [h'] at hb
                    injection hb with hb
                    omega
                · rw [h] at hb
                  injection hb with hb
                  omega
              have HB5 : Hid (Below w.heap.size w w5) := (HB3.out.trans (HB4.out.mono HZ3.out)).grown HG5.out HZ4.out (fun b hb => (HO4.out.lt b hb).1)
              have HEL : Hid ((zs.eraseIdx q).length = q) := by
                have := HNZ.out
                unfold Hid
                rw [List.length_eraseIdx, if_pos (by omega), this]; rfl
              have HO6 : Hid (w5.ownsRow w.heap.size 3 1 v5 (zs.eraseIdx q).length (ivals (lefts (zs.eraseIdx q)))) := by
                have := HO5.out
                rw [← ivals_append, ← lefts_erase] at this
                rw [show q + 0 = (zs.eraseIdx q).length from by rw [HEL.out]; omega] at this
                exact this
              have HZ6 : Hid ((zs.eraseIdx q).length ≤ 119) := by have := HZL.out; unfold Hid; rw [HEL.out]; omega
              clear HO3 HR3 HB3 HRF4 HO4 HG4 HAT4 HB4 HO5 HG5 HAT5 HAP
              go_roundw
              case rel => exact ⟨j + 1, zs.eraseIdx q, F3, by omega, by omega, by go_num, HZ6.out, okz_erase HOZ.out q, HO6.out, HR5.out, HL3.out, HAP5.out, HB5.out⟩
              case measure => simp [intOf]; omega
            · rw [if_neg hcap2] at HRF3
              have HND : Hid ((ivals ((lefts zs).drop (q + 1))).length = (n - (q + 1)) * 1) := by have := HNZ.out; unfold Hid; rw [ivals_length, List.length_drop, lefts_length]; omega
              go_wp2_with (at_builtin; first | (obtain ⟨v4, w4, hrun4, own4, grow4, at4⟩ := app_own intE 29 (World.ownsRow_nil w3 w.heap.size 3 1) (A := some ⟨g, 0, none⟩) (news := ivals ((lefts zs).take q)) q cap HRD3.out HNT.out (ivals_one _) (by have := HZL.out; omega) (by have := HZL.out; unfold maxLen; omega) HZ3.out; refine wpl_append rfl (.tmp 79) (.tmp 82) 29 29 rfl _ _ rfl rfl hrun4 ?_; clear hrun4; have HO4 := Lib.hid own4; simp only [Nat.zero_add, List.nil_append] at HO4; have HG4 : Hid (w3.grownBy w4 Option.none) := grow4; have HAT4 : Hid (v4.ownBlock = Option.none ∨ v4.ownBlock = some w3.heap.size) := at4; have HB4 : Hid (Below w3.heap.size w3 w4) := (Below.refl _ _).grown grow4 (Nat.le_refl _) (fun b hb => by simp [Value.ownBlock] at hb); have HRF4 := Lib.hid (HRF3.out.below HB4.out); have HZ4 : Hid (w.heap.size ≤ w4.heap.size) := Nat.le_trans HZ3.out HB4.out.size; clear own4 grow4 at4 HRD3 HNT HRF3) | (obtain ⟨v5, w5, hrun5, own5, grow5, at5⟩ := app_own intE 29 HO4.out (A := some ⟨g, q + 1, none⟩) (news := ivals ((lefts zs).drop (q + 1))) (n - (q + 1)) (cap - (q + 1)) HRF4.out HND.out (ivals_one _) (by have := HZL.out; omega) (by have := HZL.out; unfold maxLen; omega) HZ4.out; refine wpl_append rfl (.tmp 84) (.tmp 88) 29 29 rfl _ _ rfl rfl hrun5 ?_; clear hrun5; have HO5 := Lib.hid own5; have HG5 := Lib.hid grow5; have HAT5 := Lib.hid at5; clear own5 grow5 at5))
              have HR5 : Hid (Rep 51 64 w5 p (ord (zs.eraseIdx q)) F3) := by
                have h4 : Rep 51 64 w4 p (ord (zs.eraseIdx q)) F3 := HR3.out.below HB4.out
                refine h4.kept (G := fun b => v4.ownBlock = some b) ((Kept.refl _ _).grown HG5.out (fun b hb => .inl hb)) (fun b hF hb => ?_)
                have := HR3.out.lt b hF
                rcases HAT4.out with h | h
                · rw [h] at hb; cases hb
                · rw [h] at hb
                  injection hb with hb
                  omega
              have HAP5 : Hid (∀ b, v5.ownBlock = some b → ¬ F3 b) := fun b hb hF => by
                have h1 := HR3.out.lt b hF
                have h2 := HB4.out.size
                rcases HAT5.out with h | h
                · rw [h] at hb
                  rcases HAT4.out with h' | h'
                  · rw [h'] at hb; cases hb
                  · rw [h'] at hb
                    injection hb with hb
                    omega
                · rw [h] at hb
                  injection hb with hb
                  omega
              have HB5 : Hid (Below w.heap.size w w5) := (HB3.out.trans (HB4.out.mono HZ3.out)).grown HG5.out HZ4.out (fun b hb => (HO4.out.lt b hb).1)
              have HEL : Hid ((zs.eraseIdx q).length = n - 1) := by
                have := HNZ.out
                unfold Hid
                rw [List.length_eraseIdx, if_pos (by omega), this]
              have HO6 : Hid (w5.ownsRow w.heap.size 3 1 v5 (zs.eraseIdx q).length (ivals (lefts (zs.eraseIdx q)))) := by
                have := HO5.out
                rw [← ivals_append, ← lefts_erase] at this
                rw [show q + (n - (q + 1)) = (zs.eraseIdx q).length from by rw [HEL.out]; omega] at this
                exact this
              have HZ6 : Hid ((zs.eraseIdx q).length ≤ 119) := by have := HZL.out; unfold Hid; rw [HEL.out]; omega
              clear HO3 HR3 HB3 HRF4 HO4 HG4 HAT4 HB4 HO5 HG5 HAT5 HAP
              go_roundw
              case rel => exact ⟨j + 1, zs.eraseIdx q, F3, by omega, by omega, by go_num, HZ6.out, okz_erase HOZ.out q, HO6.out, HR5.out, HL3.out, HAP5.out, HB5.out⟩
              case measure => simp [intOf]; omega
          · have hx3 : ¬ (j : Int) < (m2 : Int) ∨ ((j : Int) < (m2 : Int) ∧ ¬ (j : Int) < 60) ∨ ((j : Int) < (m2 : Int) ∧ (j : Int) < 60 ∧ (zs.length : Int) = 0) := by omega
            obtain ⟨A6, c6, rfl, _, _⟩ := own_slice HO.out
            clear hlt hj hj1 hl2 HD2 HKS HN2
            rcases hx3 with hx3 | ⟨hx3, hx4⟩ | ⟨hx3, hx4, hx5⟩
            all_goals
              go_wp2_with fail
              go_loopw [13] (fun i wr => InvQ w.heap.size w p zs (.slice A6 zs.length c6) i wr) (fun i _ => 120 - (intOf i).toNat)
              case atStart => exact ⟨0, F, by omega, rfl, HO.out, by rw [List.drop_zero]; exact HR.out, HL.out, HAP.out, HB.out⟩
              case round =>
                clear HR HL HAP HB HSZ HO F hx3
                try clear hx4
                try clear hx5
                obtain ⟨i, F, hi, rfl, hown, hr, hlo, hap, hb⟩ := hrel
                have HR := Lib.hid hr
                have HL := Lib.hid hlo
                have HAP := Lib.hid hap
                have HB := Lib.hid hb
                have HO := Lib.hid hown
                clear hown hr hlo hap hb
                by_cases hlt : i < zs.length
                · have hlt' : (i : Int) < (zs.length : Int) := by omega
                  have hd0 : (zs.drop i)[0]? = some zs[i] := by simp [hlt]
                  have hps : (ord (zs.drop i)).ps[0]? = some (1 + ((zs[i].1 % 2 : Nat) : Int), UInt8.ofNat zs[i].1 :: zs[i].2) := by simp [ord, pkz, hlt]
                  have hz := HOZ.out _ (List.getElem_mem hlt)
                  have hla := lefts_at zs i hlt
                  have HT := Lib.hid (take_any 0 false _ _ HR.out (ord_good _ (by have := HZL.out; simp; omega)) hps (by have := hz.2; simp; omega))
                  simp only [if_neg (show ¬ (false = true) from by decide)] at HT
                  generalize zs[i] = z at *
                  obtain ⟨z1, z2⟩ := z
                  simp only at hz hla HT
                  obtain ⟨hz1, hz2⟩ := hz
                  have HLT : Hid (i < zs.length) := by unfold Hid; omega
                  rw [show ((z1 % 2 : Nat) : Int) = (z1 : Int) % 2 from by omega] at HT
                  clear hps hd0
                  go_wp2_with fail
                  refine HT.out.mono ?_
                  clear HT
                  rintro e w3 ⟨A3, c3, F3, rfl, hrd3, _, _, hA3, hr3, hk3, hg3⟩
                  rw [ord_erase, drop_erase] at hr3
                  have HR3 := Lib.hid hr3
                  have HO3 : Hid (w3.ownsRow w.heap.size 3 1 (.slice A6 zs.length c6) zs.length (ivals (lefts zs))) := own_keep HO.out fun b hb => hk3.block (HO.out.lt b hb).2 (HAP.out b hb)
                  have HAP3 : Hid (∀ b, (Value.slice A6 zs.length c6).ownBlock = some b → ¬ F3 b) := fun g hg hF => by
                    rcases hg3 g hF with h | h
                    · exact HAP.out g hg h
                    · have := (HO.out.lt g hg).2; omega
                  have HB3 : Hid (Below w.heap.size w w3) := HB.out.trans (hk3.below HL.out HB.out.size)
                  have HL3 : Hid (∀ b, F3 b → w.heap.size ≤ b) := lo_grew HL.out hg3 HB.out.size
                  obtain ⟨g, cap, hv, _, _, _⟩ := own_form HO3.out (by omega)
                  injection hv with e1 _ e3
                  subst e1 e3
                  have y1 := HO3.out.cellAt i (by omega)
                  rw [hla] at y1
                  obtain ⟨b3, o3, rfl, _, hc3⟩ := hrd3.at (j := 0) (by simp [bvals])
                  have y2 := hc3 0 _ rfl
                  have hzz : (UInt8.ofNat z1).toNat = z1 := UInt8.toNat_ofNat_of_lt' (by show z1 < 256; omega)
                  have y3 : w3.cell? ⟨b3, o3, none⟩ = some (.int .u8 (z1 : Int)) := by
                    have := y2
                    simp only [bval, hzz, Nat.add_zero] at this
                    exact this
                  have hw3 : IntKind.i64.wrap (z1 : Int) = (z1 : Int) := by rw [IntWalk.i64_in _ (by omega)]
                  have hz1' : (z1 : Int) < 119 := by omega
                  have hi119 : (i : Int) < 119 := by have := HZL.out; omega
                  have hz0' : (0 : Int) ≤ (z1 : Int) := by omega
                  have hw4 : IntKind.i64.wrap (1 + (z1 : Int).tmod 2) = 1 + (z1 : Int) % 2 := by rw [Int.tmod_eq_emod_of_nonneg hz0', IntWalk.i64_in _ (by omega)]
                  have q0 : (1 + (z1 : Int) % 2 != 1 + (z1 : Int) % 2) = false := by simp
                  have q1 : ((z1 : Int) != (z1 : Int)) = false := by simp
                  rw [show (UInt8.ofNat z1 :: z2).length = z2.length + 1 from rfl]
                  clear hr3 hk3 hg3 hA3 hrd3 hc3 y2 hla hzz HR HO HAP HB HL
                  generalize z2.length = L2 at *
                  go_wp2_with fail
                  refine still_lit (by kernel_rfl) (by kernel_rfl) ?_
                  repeat still_step
                  refine wpStill_nil ?_
                  go_wp2_with fail
                  have HZM := HZL.out
                  go_roundw
                  case rel => exact ⟨i + 1, F3, by have := HLT.out; omega, by go_num, HO3.out, HR3.out.drewC, HL3.out, HAP3.out, ⟨HB3.out.os, HB3.out.tape, HB3.out.output, HB3.out.size, HB3.out.block⟩⟩
                  case measure => have := HLT.out; simp [intOf]; omega
                · obtain rfl : i = zs.length := by omega
                  have HLN := Lib.hid (len_any HR.out)
                  rw [List.drop_length] at HLN
                  rw [show ((ord []).ps.length : Int) = 0 from rfl] at HLN
                  go_wp2_with fail
                  refine HLN.out.mono ?_
                  rintro e w' ⟨rfl, rfl⟩
                  clear HLN
                  go_wp2_with fail
                  refine (lives_any wr).mono ?_
                  rintro e w9 ⟨rfl, hb9⟩
                  have HB9 : Hid (Below w.heap.size w w9) := HB.out.trans (hb9.mono HB.out.size)
                  clear hb9 HR HB HO
                  go_wp2_with fail
                  go_ret
                  exact ⟨rfl, HB9.out⟩
end Go.Proofs.Ytpljopocnlllcaa
