/- The walk of TapePlays: whatever is asked of both tapes, they answer alike and have the same. -/
import Derived.Test.YtpcmfbdlfjlobaaDO
import Derived.Test.YtpcmfbdlfjlobaaV2
namespace Go.Proofs.Ytpcmfbdlfjlobaa
open Go.RowKit
set_option linter.unusedVariables false
attribute [local go_sem ↓] Go.wp_at_zero Go.wp_at_succ
theorem Rd.lt_of {w : World} {A : Option Addr} {xs : List Value} (h : Rd w A xs) (hne : xs ≠ []) : ∀ a, A = some a → a.block < w.heap.size := by
  rintro a rfl
  rcases h with h | ⟨b, off, e, hlt, _⟩
  · exact absurd h hne
  · cases e
    exact hlt
def InvPl (B : Nat) (w : World) (p q m N : Nat) (i : Value) (wr : World) : Prop := ∃ k : Nat, ∃ s : TSt, ∃ F G : Nat → Prop, k ≤ m ∧ k ≤ N ∧ i = .int .i64 (k : Int) ∧ Two B wr p q s s F G ∧ s.good ∧ s.us.length ≤ 60 * k ∧ Below B w wr
/-- A deed at hand: its cells, and what does asks of it. -/
theorem deed_at {w wr : World} {B : Nat} {A : Option Addr} {l : List Dd} {k : Nat} {p q : Nat} {s : TSt} {F G : Nat → Prop} (hd : DeedsAt w A l) (hk : k < l.length) (hb : Below w.heap.size w wr) (hB : B = w.heap.size) (ht : Two B wr p q s s F G) :
    ∃ (d : Dd) (b off : Nat), A = some ⟨b, off, none⟩ ∧ d.ok wr ∧ (∀ a, d.da = some a → d.bs ≠ [] → ¬ F a.block ∧ ¬ G a.block) ∧ (∀ a, d.da = some a → d.bs ≠ [] → a.block < w.heap.size) ∧ (∀ j v, d.cells[j]? = some v → wr.cell? ⟨b, off + k * 4 + j, none⟩ = some v) := by
  obtain ⟨b, off, rfl, hbl, hc, hok⟩ := hd.at_ k hk
  have hlt : ∀ a, (l[k]).da = some a → (l[k]).bs ≠ [] → a.block < w.heap.size := fun a ha hne => hok.rd.lt_of (fun e => hne (by cases hs : (l[k]).bs with | nil => rfl | cons x y => simp [bvals, hs] at e)) a ha
  exact ⟨l[k], b, off, rfl, hok.below hb, fun a ha hne => ⟨fun hF => by have h2 := ht.loF _ hF; have := hlt a ha hne; omega, fun hG => by have h2 := ht.loG _ hG; have := hlt a ha hne; omega⟩, hlt, fun j v hv => (World.cell?_of_block (w := w) (a := ⟨b, off + k * 4 + j, none⟩) (hb.block b hbl)).trans (hc j v hv)⟩
set_option maxRecDepth 100000 in
set_option maxHeartbeats 8000000 in
theorem plays_any (A : Option Addr) (c : Nat) (l : List Dd) (w : World) (h : DeedsAt w A l) (hl : l.length ≤ maxLen) :
    Calls Try.prog 3 #[.slice A l.length c] w (Lived w) := by
  unfold maxLen at hl
  generalize hn : l.length = m at hl ⊢
  have HN := Lib.hid hn
  have HD := Lib.hid h
  clear hn h
  go_enter Try.func3, Try.ntmps3
  go_wp2_with fail
  refine (new_any w).mono ?_
  rintro e w1 ⟨p, F, rfl, hr1, hlo1, hb1⟩
  have HR1 := Lib.hid hr1
  have HK1 := Lib.hid hb1
  have HL1 := Lib.hid hlo1
  clear hr1 hb1 hlo1
  go_wp2_with fail
  refine (rnew_any w1).mono ?_
  rintro e w2 ⟨q, G, rfl, hr2, hlo2, hb2⟩
  have HT2 : Hid (Two w.heap.size w2 p q t0 t0 F G) := two_new HR1.out HL1.out HK1.out hr2 hlo2 hb2
  have HB2 : Hid (Below w.heap.size w w2) := HK1.out.trans (hb2.mono HK1.out.size)
  clear hr2 hlo2 hb2 HR1 HK1 HL1
  go_wp2_with fail
  go_loopw [5, 6, 7] (fun i _ _ wr => InvPl w.heap.size w p q m 60 i wr) (fun i _ _ _ => 60 - (intOf i).toNat)
  case atStart => exact ⟨0, t0, F, G, by omega, by omega, rfl, HT2.out, t0_good, by simp [t0], HB2.out⟩
  case round =>
    clear HT2 HB2
    obtain ⟨k, s, F, G, hk, hk1, rfl, ht, hg, hus, hb⟩ := hrel
    have HT := Lib.hid ht
    have HG := Lib.hid hg
    have HB := Lib.hid hb
    have HUS : Hid (s.us.length ≤ 60 * k) := hus
    clear ht hg hb hus
    by_cases hlt : k < m ∧ k < 60
    · obtain ⟨hkn, hk100⟩ := hlt
      have hkn' : (k : Int) < (m : Int) := by omega
      have hk100' : (k : Int) < 60 := by omega
      obtain ⟨d, b, off, rfl, hok, hfar, _, hc⟩ := deed_at HD.out (by rw [HN.out]; exact hkn) HB.out rfl HT.out
      have x0 := hc 0 _ rfl
      have x1 := hc 1 _ rfl
      have x2 := hc 2 _ rfl
      have x3 := hc 3 _ rfl
      rw [Nat.add_zero] at x0
      have HDO := Lib.hid (acts_any d HT.out HG.out (by have := HUS.out; omega) hok hfar)
      clear hc hok hfar
      go_wp2_with fail
      refine HDO.out.mono ?_
      rintro e w3 ⟨rfl, ⟨s', F', G', ht', hg', hu', _, _⟩, hb', _⟩
      have HT3 := Lib.hid ht'
      have HG3 := Lib.hid hg'
      have HB3 : Hid (Below w.heap.size w w3) := HB.out.trans hb'
      have HU3 : Hid (s'.us.length ≤ 60 * (k + 1)) := by have := HUS.out; unfold Hid; omega
      clear ht' hg' hb' hu' x0 x1 x2 x3 HT HG HB HDO HUS
      have HLK := Lib.hid (like_any HT3.out HG3.out (by have := HU3.out; omega))
      go_wp2_with fail
      refine HLK.out.mono ?_
      rintro e w4 ⟨rfl, hb4⟩
      have HT4 := Lib.hid (HT3.out.below hb4)
      have HB4 : Hid (Below w.heap.size w w4) := HB3.out.trans (hb4.mono HB3.out.size)
      clear hb4 HT3 HB3 HLK
      go_wp2_with fail
      go_roundw
      case rel => exact ⟨k + 1, s', F', G', by omega, by omega, by go_num, HT4.out, HG3.out, HU3.out, HB4.out⟩
      case measure => simp [intOf]; omega
    · have hx : ¬ (k : Int) < (m : Int) ∨ ((k : Int) < (m : Int) ∧ ¬ (k : Int) < 60) := by omega
      clear hlt hk hk1 HD HN hl
      rcases hx with hx | ⟨hx, hx2⟩
      all_goals
        go_wp2_with fail
        refine (lives_any wr).mono ?_
        rintro e w4 ⟨rfl, hb4⟩
        have HB4 : Hid (Below w.heap.size w w4) := HB.out.trans (hb4.mono HB.out.size)
        clear hb4
        go_wp2_with fail
        go_ret
        exact ⟨rfl, HB4.out⟩
end Go.Proofs.Ytpcmfbdlfjlobaa
