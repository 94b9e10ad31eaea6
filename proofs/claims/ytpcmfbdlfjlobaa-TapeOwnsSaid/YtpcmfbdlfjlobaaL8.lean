/- The walk of TapeOwns: a tape has bytes of its own. -/
import Derived.Test.YtpcmfbdlfjlobaaP3
namespace Go.Proofs.Ytpcmfbdlfjlobaa
open Go.RowKit
set_option linter.unusedVariables false
attribute [local go_sem ↓] Go.wp_at_zero Go.wp_at_succ
theorem GOwn.set {w : World} {e : TypeId} {g off n cap : Nat} {xs : List Value} (h : GOwn w e 1 (.slice (some ⟨g, off, none⟩) n cap) n xs) (j : Nat) (u : Value) : GOwn (w.setCell ⟨g, off + j, none⟩ u) e 1 (.slice (some ⟨g, off, none⟩) n cap) n (xs.set j u) := by
  refine ⟨by rw [List.length_set]; exact h.1, ?_⟩
  rcases h.2 with ⟨h1, _⟩ | ⟨g', off', cap', cur, h1, h2, h3, h4, h5, h6⟩
  · simp at h1
  · simp only [Value.slice.injEq, Option.some.injEq, Addr.mk.injEq, and_true, true_and] at h1
    obtain ⟨⟨rfl, rfl⟩, rfl⟩ := h1
    right
    refine ⟨g, off, cap, cur.setIfInBounds (off + j) u, rfl, ?_, h3, h4, by rw [Array.size_setIfInBounds]; exact h5, ?_⟩
    · simp [World.setCell, Array.getElem?_modify, h2]
    · rw [Array.toList_setIfInBounds, ← h6, List.drop_set, if_neg (by omega), List.take_set, show off + j - off = j by omega]
/-- The loop's state while own bytes are written over. -/
def InvW (B : Nat) (w : World) (p q : Nat) (s : TSt) (F G : Nat → Prop) (v : Value) (n : Nat) (i : Value) (wr : World) : Prop := ∃ k : Nat, ∃ xs : List Value, k ≤ n ∧ i = .int .i64 (k : Int) ∧ Two B wr p q s s F G ∧ GOwn wr 5 1 v n xs ∧ Below B w wr
theorem InvW.step {B : Nat} {w wr : World} {p q : Nat} {s : TSt} {F G : Nat → Prop} {g off n cap k : Nat} {xs : List Value} (hk : k < n) (ht : Two B wr p q s s F G) (ho : GOwn wr 5 1 (.slice (some ⟨g, off, none⟩) n cap) n xs) (hb : Below B w wr) (hg : B ≤ g) (hF : ¬ F g) (hG : ¬ G g) (u : Value) :
    InvW B w p q s F G (.slice (some ⟨g, off, none⟩) n cap) n (.int .i64 ((k + 1 : Nat) : Int)) (wr.setCell ⟨g, off + k, none⟩ u) :=
  ⟨k + 1, _, by omega, rfl, ht.set _ hF hG u, ho.set k u, hb.setCell hg u⟩
theorem InvW.cell {wr : World} {g off n cap k : Nat} {xs : List Value} (ho : GOwn wr 5 1 (.slice (some ⟨g, off, none⟩) n cap) n xs) (hk : k < n) : ∃ v, wr.cell? ⟨g, off + k, none⟩ = some v := by
  have h1 := ho.1
  exact ⟨xs[k]'(by omega), ho.cells k _ (List.getElem?_eq_getElem (by omega))⟩
def InvS (B : Nat) (w : World) (p q : Nat) (s : TSt) (F G : Nat → Prop) (i : Value) (wr : World) : Prop := ∃ k : Nat, k ≤ 2 ∧ i = .int .i64 (k : Int) ∧ Two B wr p q s s F G ∧ Below B w wr
set_option maxRecDepth 100000 in
set_option maxHeartbeats 8000000 in
theorem owns_any (A : Option Addr) (c : Nat) (l : List Dd) (w : World) (h : DeedsAt w A l) (hl : l.length ≤ maxLen) :
    Calls Try.prog 8 #[.slice A l.length c] w (Lived w) := by
  unfold maxLen at hl
  generalize hn : l.length = m at hl ⊢
  have HN := Lib.hid hn
  have HD := Lib.hid h
  clear hn h
  go_enter Try.func8, Try.ntmps8
  go_wp2_with fail
  refine (new_any w).mono ?_
  rintro e w1 ⟨p, F, rfl, hr1, hlo1, hb1⟩
  have HR1 := Lib.hid hr1
  have HK1 := Lib.hid hb1
  have HL1 := Lib.hid hlo1
  clear hr1 hb1 hlo1
  go_wp2_with fail
  refine (rnew_any w1).mono ?_
  rintro e w2 ⟨q, G, rfl, hr2, hlo2, hb2⟩
  have HT2 : Hid (Two w.heap.size w2 p q t0 t0 F G) := two_new HR1.out HL1.out HK1.out hr2 hlo2 hb2
  have HB2 : Hid (Below w.heap.size w w2) := HK1.out.trans (hb2.mono HK1.out.size)
  clear hr2 hlo2 hb2 HR1 HK1 HL1
  go_wp2_with fail
  go_loopw [5, 6, 7, 8, 9, 10, 11, 12, 13, 14] (fun i _ _ _ _ _ _ _ _ _ wr => InvPl w.heap.size w p q m 25 i wr) (fun i _ _ _ _ _ _ _ _ _ _ => 25 - (intOf i).toNat)
  case atStart => exact ⟨0, t0, F, G, by omega, by omega, rfl, HT2.out, t0_good, by simp [t0], HB2.out⟩
  case round =>
    clear HT2 HB2
    obtain ⟨k, s, F, G, hk, hk1, rfl, ht, hg, hus, hb⟩ := hrel
    have HT := Lib.hid ht
    have HG := Lib.hid hg
    have HB := Lib.hid hb
    have HUS : Hid (s.us.length ≤ 60 * k) := hus
    clear ht hg hb hus
    by_cases hlt : k < m ∧ k < 25
    · obtain ⟨hkn, hk100⟩ := hlt
      have hkn' : (k : Int) < (m : Int) := by omega
      have hk100' : (k : Int) < 25 := by omega
      obtain ⟨⟨kind, side, nn, da, bs, dc⟩, b, off, rfl, hok, _, _, hc⟩ := deed_at HD.out (by rw [HN.out]; exact hkn) HB.out rfl HT.out
      have x0 := hc 0 _ rfl
      have x1 := hc 1 _ rfl
      have x2 := hc 2 _ rfl
      have x3 := hc 3 _ rfl
      rw [Nat.add_zero] at x0
      have HOK := Lib.hid hok
      have HFW := Lib.hid (few_any da dc bs (wr.alloc (.cells #[.int .i64 kind, .int .i64 side, .int .i64 nn, .slice da bs.length dc] 30)) (hok.rd.alloc _) hok.ld hok.md)
      have HDT : Hid ((bs.take 60).length ≤ 60) := by unfold Hid; simp; omega
      have HRD0 : Hid (Rd wr da (bvals (bs.take 60))) := by
        have := hok.rd.take 60
        rw [← bvals_take] at this
        exact this
      clear hc hok
      generalize bs.take 60 = bs2 at *
      go_wp2_with fail
      have HX3 : Hid (Blk (wr.alloc (.cells #[.int .i64 kind, .int .i64 side, .int .i64 nn, .slice da bs.length dc] 30)) wr.heap.size 30 [.int .i64 kind, .int .i64 side, .int .i64 nn, .slice da bs.length dc]) := Blk.new wr 30 _
      have HRD3 : Hid (Rd (wr.alloc (.cells #[.int .i64 kind, .int .i64 side, .int .i64 nn, .slice da bs.length dc] 30)) da (bvals bs2)) := HRD0.out.alloc _
      clear x0 x1 x2 x3
      refine HFW.out.mono ?_
      rintro e w' ⟨rfl, rfl⟩
      clear HFW HRD0
      go_wp2_with (at_builtin; obtain ⟨v5, w5, hrun5, own5, grow5, at5⟩ := app_own byteE 28 (World.ownsRow_nil (wr.alloc (.cells #[.int .i64 kind, .int .i64 side, .int .i64 nn, .slice da bs.length dc] 30)) wr.heap.size 5 1) (A := da) (news := bvals bs2) bs2.length dc HRD3.out (by rw [bvals_length, Nat.mul_one]) (bvals_one _) (by have := HDT.out; omega) (by have := HDT.out; unfold maxLen; omega) (by simp); refine wpl_append rfl (.tmp 34) (.tmp 37) 28 28 rfl _ _ rfl rfl hrun5 ?_; clear hrun5; simp only [Nat.zero_add, List.nil_append] at own5; obtain ⟨A5, c5, rfl, hl5, hm5⟩ := own_slice own5; have hbx5 : Blk w5 wr.heap.size 30 [.int .i64 kind, .int .i64 side, .int .i64 nn, .slice da bs.length dc] := HX3.out.grown grow5 (by simp [Value.ownBlock]); have y0 := hbx5.cell 0; have y1 := hbx5.cell 1; have y2 := hbx5.cell 2; have y3 := hbx5.cell 3)
      have HS6 : Hid (Below wr.heap.size wr (w5.alloc (.cells #[.int .i64 kind, .int .i64 side, .int .i64 nn, .slice A5 bs2.length c5] 30))) := (((Below.refl _ _).alloc (Nat.le_refl _) _).grown grow5 (by simp) (fun g hg => by simp [Value.ownBlock] at hg)).alloc (by have := grow5.size; simp at this; omega) _
      have HO6 : Hid (GOwn (w5.alloc (.cells #[.int .i64 kind, .int .i64 side, .int .i64 nn, .slice A5 bs2.length c5] 30)) 5 1 (.slice A5 bs2.length c5) bs2.length (bvals bs2)) := (GOwn.of_own own5).keep fun g hg => Below.heap_alloc _ _ g (own5.lt g hg).2
      have HG6 : Hid (∀ a, A5 = some a → wr.heap.size ≤ a.block ∧ a.block < ((w5.alloc (.cells #[.int .i64 kind, .int .i64 side, .int .i64 nn, .slice A5 bs2.length c5] 30))).heap.size) := fun a ha => by
        subst ha
        have := own5.lt a.block rfl
        simp
        omega
      have HZ6 : Hid (bs2.length ≤ c5 ∧ c5 ≤ maxLen) := ⟨hl5, hm5⟩
      clear own5 grow5 at5 hbx5 y0 y1 y2 y3 HX3 HRD3 hl5 hm5
      generalize hW6 : (w5.alloc (.cells #[.int .i64 kind, .int .i64 side, .int .i64 nn, .slice A5 bs2.length c5] 30)) = W6 at *
      clear hW6
      have HB6 : Hid (Below w.heap.size w W6) := HB.out.trans (HS6.out.mono HB.out.size)
      have HT6 : Hid (Two w.heap.size W6 p q s s F G) := HT.out.below HS6.out
      have HF6 : Hid (∀ a, A5 = some a → ¬ F a.block ∧ ¬ G a.block) := fun a ha => ⟨fun h => by have h1 := HT.out.rp.lt _ h; have h2 := (HG6.out a ha).1; omega, fun h => by have h1 := HT.out.rq.lt _ h; have h2 := (HG6.out a ha).1; omega⟩
      have HGB : Hid (∀ a, A5 = some a → w.heap.size ≤ a.block) := fun a ha => Nat.le_trans HB.out.size (HG6.out a ha).1
      have HOK6 : Hid (Dd.ok W6 ⟨kind, side, nn, A5, bs2, c5⟩) := ⟨HO6.out.rd, HZ6.out.1, HZ6.out.2, HOK.out.k0, HOK.out.n0, HOK.out.s0⟩
      have HDO := Lib.hid (acts_any ⟨kind, side, nn, A5, bs2, c5⟩ HT6.out HG.out (by have := HUS.out; omega) HOK6.out (fun a ha _ => HF6.out a ha))
      have hl20 := HDT.out
      clear HB HT HOK HS6 HZ6 HOK6 HDT
      refine HDO.out.mono ?_
      rintro e w7 ⟨rfl, ⟨s', F', G', ht', hg', hu', hgf, hgg⟩, hb', hk'⟩
      have HT7 := Lib.hid ht'
      have HG7 := Lib.hid hg'
      have HU7 : Hid (s'.us.length ≤ 60 * (k + 1)) := by have := HUS.out; unfold Hid; omega
      have HB7 : Hid (Below w.heap.size w w7) := HB6.out.trans hb'
      have HO7 : Hid (GOwn w7 5 1 (.slice A5 bs2.length c5) bs2.length (bvals bs2)) := HO6.out.keep fun g hg => by
        cases A5 with
        | none => simp [Value.ownBlock] at hg
        | some a =>
          obtain rfl : a.block = g := by simpa [Value.ownBlock] using hg
          exact hk'.block (HG6.out a rfl).2 (fun h => h.elim (HF6.out a rfl).1 (HF6.out a rfl).2)
      have HN7 : Hid (∀ a, A5 = some a → ¬ F' a.block ∧ ¬ G' a.block) := fun a ha => ⟨fun h => by
        rcases hgf _ h with h | h
        · exact (HF6.out a ha).1 h
        · have := (HG6.out a ha).2; omega, fun h => by
        rcases hgg _ h with h | h
        · exact (HF6.out a ha).2 h
        · have := (HG6.out a ha).2; omega⟩
      clear ht' hg' hu' hgf hgg hb' hk' HDO HT6 HB6 HF6 HG6 HO6 HG HUS
      generalize bvals bs2 = ys at *
      generalize bs2.length = n2 at *
      go_wp2_with fail
      go_loopw [10] (fun i wr => InvW w.heap.size w p q s' F' G' (.slice A5 n2 c5) n2 i wr) (fun i _ => n2 - (intOf i).toNat)
      case atStart => exact ⟨0, _, by omega, rfl, HT7.out, HO7.out, HB7.out⟩
      case round =>
        clear HT7 HO7 HB7
        obtain ⟨k2, xs, hk2, rfl, ht, ho, hb⟩ := hrel
        have HT8 := Lib.hid ht
        have HO8 := Lib.hid ho
        have HB8 := Lib.hid hb
        clear ht ho hb
        by_cases hlt2 : k2 < n2
        · have hlt2' : (k2 : Int) < (n2 : Int) := by omega
          obtain ⟨g8, off8, cap8, hv8, _, _, hg8⟩ := HO8.out.form (by omega)
          obtain ⟨rfl, rfl⟩ : A5 = some ⟨g8, off8, none⟩ ∧ c5 = cap8 := by injection hv8 with e1 _ e2; exact ⟨e1, e2⟩
          obtain ⟨v8, hc8⟩ := InvW.cell HO8.out hlt2
          have hfz8 := HO8.out.frozen (off8 + k2)
          have HST := Lib.hid (InvW.step hlt2 HT8.out HO8.out HB8.out (HGB.out _ rfl) (HN7.out _ rfl).1 (HN7.out _ rfl).2 (.int .u8 7))
          clear HT8 HO8 HB8 hv8
          go_wp2_with fail
          go_roundw
          case rel => exact HST.out
          case measure => simp [intOf]; omega
        · obtain rfl : k2 = n2 := by omega
          have HTS := Lib.hid HT8.out
          have HBS := Lib.hid HB8.out
          clear HN7 HGB HO8 HT8 HB8
          go_wp2_with fail
          obtain ⟨wo, rfl⟩ : ∃ wo : World, wo = wr := ⟨_, rfl⟩
          go_loopw [11, 12, 13, 14] (fun i _ _ _ wr => InvS w.heap.size w p q s' F' G' i wr) (fun i _ _ _ _ => 2 - (intOf i).toNat)
          case atStart => exact ⟨0, by omega, rfl, HTS.out, HBS.out⟩
          case round =>
            clear HTS HBS
            obtain ⟨j, hj, rfl, htj, hbj⟩ := hrel
            have HTJ := Lib.hid htj
            have HBJ := Lib.hid hbj
            clear htj hbj
            by_cases hlj : j < 2
            · have hlj' : (j : Int) < 2 := by omega
              have HRD := Lib.hid (read_all (j : Int) HTJ.out.rp HG7.out)
              have hn9 : (rdBs s' (j : Int)).length ≤ 65536 := rdBs_len HG7.out _
              generalize rdyN s' (j : Int) = rr at *
              generalize rdBs s' (j : Int) = zs at *
              go_wp2_with fail
              refine HRD.out.mono ?_
              rintro e w9 ⟨A9, c9, rfl, ho9, hg9, hb9⟩
              have HT9 : Hid (Two w.heap.size w9 p q s' s' F' G') := HTJ.out.below hb9
              have HB9 : Hid (Below w.heap.size w w9) := HBJ.out.trans (hb9.mono HTJ.out.lo)
              have HO9 := Lib.hid ho9
              have HN9 : Hid (∀ a, A9 = some a → ¬ F' a.block ∧ ¬ G' a.block) := fun a ha => ⟨fun h => by have h1 := HTJ.out.rp.lt _ h; have h2 := (hg9 a ha).1; omega, fun h => by have h1 := HTJ.out.rq.lt _ h; have h2 := (hg9 a ha).1; omega⟩
              have HGB9 : Hid (∀ a, A9 = some a → w.heap.size ≤ a.block) := fun a ha => Nat.le_trans HTJ.out.lo (hg9 a ha).1
              clear ho9 hg9 hb9 HTJ HBJ HRD
              generalize bvals zs = zy at *
              generalize zs.length = n9 at *
              go_wp2_with fail
              obtain ⟨wo2, rfl⟩ : ∃ wo : World, wo = wr := ⟨_, rfl⟩
              go_loopw [14] (fun i wr => InvW w.heap.size w p q s' F' G' (.slice A9 n9 c9) n9 i wr) (fun i _ => n9 - (intOf i).toNat)
              case atStart => exact ⟨0, _, by omega, rfl, HT9.out, HO9.out, HB9.out⟩
              case round =>
                clear HT9 HO9 HB9
                obtain ⟨k3, xs, hk3, rfl, ht, ho, hb⟩ := hrel
                have HT8 := Lib.hid ht
                have HO8 := Lib.hid ho
                have HB8 := Lib.hid hb
                clear ht ho hb
                by_cases hlt3 : k3 < n9
                · have hlt3' : (k3 : Int) < (n9 : Int) := by omega
                  obtain ⟨g8, off8, cap8, hv8, _, _, hg8⟩ := HO8.out.form (by omega)
                  obtain ⟨rfl, rfl⟩ : A9 = some ⟨g8, off8, none⟩ ∧ c9 = cap8 := by injection hv8 with e1 _ e2; exact ⟨e1, e2⟩
                  obtain ⟨v8, hc8⟩ := InvW.cell HO8.out hlt3
                  have hfz8 := HO8.out.frozen (off8 + k3)
                  have HST := Lib.hid (InvW.step hlt3 HT8.out HO8.out HB8.out (HGB9.out _ rfl) (HN9.out _ rfl).1 (HN9.out _ rfl).2 (.int .u8 9))
                  clear HT8 HO8 HB8 hv8
                  go_wp2_with fail
                  go_roundw
                  case rel => exact HST.out
                  case measure => simp [intOf]; omega
                · obtain rfl : k3 = n9 := by omega
                  go_wp2_with fail
                  go_roundw
                  case rel => exact ⟨j + 1, by omega, by go_num, HT8.out, HB8.out⟩
                  case measure => simp [intOf]; omega
            · obtain rfl : j = 2 := by omega
              go_wp2_with fail
              go_roundw
              case rel => exact ⟨k + 1, s', F', G', by omega, by omega, by go_num, HTJ.out, HG7.out, HU7.out, HBJ.out⟩
              case measure => simp [intOf]; omega
    · have hx : ¬ (k : Int) < (m : Int) ∨ ((k : Int) < (m : Int) ∧ ¬ (k : Int) < 25) := by omega
      have HLK := Lib.hid (like_any HT.out HG.out (by have := HUS.out; omega))
      clear hlt hk hk1 HD HN hl
      rcases hx with hx | ⟨hx, hx2⟩
      all_goals
        go_wp2_with fail
        refine HLK.out.mono ?_
        rintro e w3 ⟨rfl, hb3⟩
        have HB3 : Hid (Below w.heap.size w w3) := HB.out.trans (hb3.mono HB.out.size)
        clear hb3
        go_wp2_with fail
        refine (lives_any w3).mono ?_
        rintro e w4 ⟨rfl, hb4⟩
        have HB4 : Hid (Below w.heap.size w w4) := HB3.out.trans (hb4.mono HB3.out.size)
        clear hb4
        go_wp2_with fail
        go_ret
        exact ⟨rfl, HB4.out⟩
end Go.Proofs.Ytpcmfbdlfjlobaa
