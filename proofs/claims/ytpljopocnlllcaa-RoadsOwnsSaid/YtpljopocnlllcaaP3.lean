/- The walk of RoadsPlays: whatever happens to both worlds, they answer alike and are alike. -/
import Derived.Test.YtpljopocnlllcaaD6
namespace Go.Proofs.Ytpljopocnlllcaa
open Go.RowKit
attribute [local go_sem ↓] Go.wp_at_zero Go.wp_at_succ
def InvPl (B : Nat) (w : World) (p q m N : Nat) (i : Value) (wr : World) : Prop := ∃ k : Nat, ∃ s : St, ∃ F G : Nat → Prop, k ≤ m ∧ k ≤ N ∧ i = .int .i64 (k : Int) ∧ Two B wr p q s s F G ∧ s.fine ∧ Below B w wr
theorem st0_fine (n : Nat) (h0 : 2 ≤ n) (h1 : n ≤ 16) : (st0 n).fine := ⟨st0_good n h0 h1, fun x hx => by simp [st0] at hx⟩
theorem two_new {w w1 w2 : World} {p q : Nat} {s : St} {F G : Nat → Prop} (hr : Rep 51 64 w1 p s F) (hl : ∀ k, F k → w.heap.size ≤ k) (hb : Below w.heap.size w w1) (hr2 : Rep 54 57 w2 q s G) (hl2 : ∀ k, G k → w1.heap.size ≤ k) (hb2 : Below w1.heap.size w1 w2) : Two w.heap.size w2 p q s s F G :=
  { rp := hr.below hb2
    rq := hr2
    dis := fun k hF hG => by have h1 := hr.lt _ hF; have h2 := hl2 _ hG; omega
    loF := hl
    loG := fun k hG => Nat.le_trans hb.size (hl2 k hG)
    lo := Nat.le_trans hb.size hb2.size }
set_option maxRecDepth 100000 in
set_option maxHeartbeats 8000000 in
theorem plays_any (n : Int) (A : Option Addr) (c : Nat) (l : List Dd) (w : World) (h : DeedsAt w A l) (hl : l.length ≤ maxLen) :
    Calls Try.prog 3 #[.int .i64 n, .slice A l.length c] w (Lived w) := by
  unfold maxLen at hl
  generalize hn : l.length = m at hl ⊢
  have HN := Lib.hid hn
  have HD := Lib.hid h
  clear hn h
  by_cases hb : 2 ≤ n ∧ n ≤ 16
  · obtain ⟨N, rfl⟩ : ∃ N : Nat, n = (N : Int) := ⟨n.toNat, by omega⟩
    have hN0 : 2 ≤ N := by omega
    have hN1 : N ≤ 16 := by omega
    clear hb
    go_enter Try.func3, Try.ntmps3
    go_wp2_with fail
    refine (new_any N w hN0 hN1).mono ?_
    rintro e w1 ⟨p, F, rfl, hr1, hlo1, hb1⟩
    have HR1 := Lib.hid hr1
    have HK1 := Lib.hid hb1
    have HL1 := Lib.hid hlo1
    clear hr1 hb1 hlo1
    go_wp2_with fail
    refine (rnew_any N w1 hN0 hN1).mono ?_
    rintro e w2 ⟨q, G, rfl, hr2, hlo2, hb2⟩
    have HT2 : Hid (Two w.heap.size w2 p q (st0 N) (st0 N) F G) := two_new HR1.out HL1.out HK1.out hr2 hlo2 hb2
    have HB2 : Hid (Below w.heap.size w w2) := HK1.out.trans (hb2.mono HK1.out.size)
    have HF0 : Hid ((st0 N).fine) := st0_fine N hN0 hN1
    clear hr2 hlo2 hb2 HR1 HK1 HL1
    go_wp2_with fail
    go_loopw [7, 8] (fun i _ wr => InvPl w.heap.size w p q m 200 i wr) (fun i _ _ => 200 - (intOf i).toNat)
    case atStart => exact ⟨0, _, F, G, by omega, by omega, rfl, HT2.out, HF0.out, HB2.out⟩
    case round =>
      clear HT2 HB2 HF0
      obtain ⟨k, s, F, G, hk, hk1, rfl, ht, hf, hb⟩ := hrel
      have HT := Lib.hid ht
      have HF := Lib.hid hf
      have HB := Lib.hid hb
      clear ht hf hb
      by_cases hlt : k < m ∧ k < 200
      · obtain ⟨hkn, hk100⟩ := hlt
        have hkn' : (k : Int) < (m : Int) := by omega
        have hk100' : (k : Int) < 200 := by omega
        obtain ⟨b, off, rfl, hbl, hc, hok⟩ := HD.out.at_ k (by rw [HN.out]; exact hkn)
        generalize (l[k]'(by rw [HN.out]; exact hkn)) = d at hc hok
        have HOK := Lib.hid (hok.below HB.out)
        have hc' : ∀ j v, d.cells[j]? = some v → wr.cell? ⟨b, off + k * 7 + j, none⟩ = some v := fun j v hv => (World.cell?_of_block (w := w) (a := ⟨b, off + k * 7 + j, none⟩) (HB.out.block b hbl)).trans (hc j v hv)
        have HFAR : Hid (∀ a, d.sa = some a → d.sk ≠ [] → ¬ F a.block ∧ ¬ G a.block) := fun a ha hne => by
          have h1 := hok.rs.lt_of (fun e => hne (by cases hs : d.sk with | nil => rfl | cons x y => simp [ivals, hs] at e)) a ha
          exact ⟨fun hF => by have h2 := HT.out.loF _ hF; omega, fun hG => by have h2 := HT.out.loG _ hG; omega⟩
        have HFD : Hid (∀ a, d.da = some a → d.bs ≠ [] → ¬ F a.block ∧ ¬ G a.block) := fun a ha hne => by
          have h1 := hok.rd.lt_of (fun e => hne (by cases hs : d.bs with | nil => rfl | cons x y => simp [bvals, hs] at e)) a ha
          exact ⟨fun hF => by have h2 := HT.out.loF _ hF; omega, fun hG => by have h2 := HT.out.loG _ hG; omega⟩
        have x0 := hc' 0 _ rfl
        have x1 := hc' 1 _ rfl
        have x2 := hc' 2 _ rfl
        have x3 := hc' 3 _ rfl
        have x4 := hc' 4 _ rfl
        have x5 := hc' 5 _ rfl
        have x6 := hc' 6 _ rfl
        rw [Nat.add_zero] at x0
        clear hc hok hc' hbl
        have HDO := Lib.hid (does_any d HT.out HF.out HOK.out HFAR.out HFD.out)
        clear HOK HFAR HFD
        go_wp2_with fail
        refine HDO.out.mono ?_
        rintro e w3 ⟨rfl, ⟨s', F', G', ht', hf', _, _⟩, hb', _⟩
        have HT3 := Lib.hid ht'
        have HF3 := Lib.hid hf'
        have HB3 : Hid (Below w.heap.size w w3) := HB.out.trans hb'
        clear ht' hf' hb' x0 x1 x2 x3 x4 x5 x6 HT HF HB HDO
        go_wp2_with fail
        go_roundw
        case rel => exact ⟨k + 1, s', F', G', by omega, by omega, by go_num, HT3.out, HF3.out, HB3.out⟩
        case measure => simp [intOf]; omega
      · have hx : ¬ (k : Int) < (m : Int) ∨ ((k : Int) < (m : Int) ∧ ¬ (k : Int) < 200) := by omega
        clear hlt hk hk1 HD HN hl
        have HLK := Lib.hid (like_any HT.out HF.out)
        rcases hx with hx | ⟨hx, hx2⟩
        all_goals
          go_wp2_with fail
          refine HLK.out.mono ?_
          rintro e w3 ⟨rfl, _, hb3⟩
          have HB3 : Hid (Below w.heap.size w w3) := HB.out.trans hb3
          clear hb3
          go_wp2_with fail
          refine (lives_any w3).mono ?_
          rintro e w4 ⟨rfl, hb4⟩
          have HB4 : Hid (Below w.heap.size w w4) := HB3.out.trans (hb4.mono HB3.out.size)
          clear hb4
          go_wp2_with fail
          go_ret
          exact ⟨rfl, HB4.out⟩
  · have hb' : n < 2 ∨ 16 < n := by omega
    clear hb HD HN
    go_enter Try.func3, Try.ntmps3
    go_wp2_with fail
    refine (new_none n w hb').mono ?_
    rintro e w1 ⟨rfl, rfl⟩
    go_wp2_with fail
    refine (rnew_none n w hb').mono ?_
    rintro e w1 ⟨rfl, rfl⟩
    go_wp2_with fail
    refine (lives_any w).mono ?_
    rintro e w4 ⟨rfl, hb4⟩
    go_wp2_with fail
    go_ret
    exact ⟨rfl, hb4⟩
end Go.Proofs.Ytpljopocnlllcaa
