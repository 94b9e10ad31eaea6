/- The laws of the digest: their helpers. -/
import Derived.Test.YtleeacgimikdbaaDoorR5
import Derived.Lib.SlBytesConst
namespace Go.Proofs.YtleeacgimikdbaaDoor
open Go.RowKit
attribute [local go_sem ↓] Go.wp_at_zero Go.wp_at_succ
set_option maxRecDepth 100000 in
set_option maxHeartbeats 1000000 in
theorem few_any (A : Option Addr) (n c : Nat) (w : World) (hc : n ≤ c) (hm : c ≤ maxLen) :
    Calls Tryd.prog 14 #[.slice A n c] w fun e w' => e = .returned (.slice A (min n 400) c) ∧ w' = w := by
  have hm' : c ≤ 9223372036854775807 := hm
  go_enter Tryd.func14, Tryd.ntmps14
  by_cases h : 400 < n
  · rw [Nat.min_eq_right (by omega)]
    have h2 : (400 : Int) ≤ (c : Int) := by omega
    go_wp2
    all_goals
      go_ret
      exact ⟨rfl, rfl⟩
  · rw [Nat.min_eq_left (by omega)]
    go_wp2
    go_ret
    exact ⟨rfl, rfl⟩
theorem HasK.below {w w' : World} (h : HasK w) (hb : Below w.heap.size w w') : HasK w' :=
  ⟨Nat.lt_of_lt_of_le h.1 hb.size, fun t ht => (hb.cell (p := ⟨0, t, none⟩) h.1).trans (h.2 t ht)⟩
theorem hexNil0 : hexOf (sha []) = [101, 51, 98, 48, 99, 52, 52, 50, 57, 56, 102, 99, 49, 99, 49, 52, 57, 97, 102, 98, 102, 52, 99, 56, 57, 57, 54, 102, 98, 57, 50, 52, 50, 55, 97, 101, 52, 49, 101, 52, 54, 52, 57, 98, 57, 51, 52, 99, 97, 52, 57, 53, 57, 57, 49, 98, 55, 56, 53, 50, 98, 56, 53, 53] := by decide +kernel
theorem hexNil : strOf (hexOf (sha [])) = .string ⟨#[101, 51, 98, 48, 99, 52, 52, 50, 57, 56, 102, 99, 49, 99, 49, 52, 57, 97, 102, 98, 102, 52, 99, 56, 57, 57, 54, 102, 98, 57, 50, 52, 50, 55, 97, 101, 52, 49, 101, 52, 54, 52, 57, 98, 57, 51, 52, 99, 97, 52, 57, 53, 57, 57, 49, 98, 55, 56, 53, 50, 98, 56, 53, 53]⟩ := by rw [hexNil0]; rfl
theorem hexAbc0 : hexOf (sha [97, 98, 99]) = [98, 97, 55, 56, 49, 54, 98, 102, 56, 102, 48, 49, 99, 102, 101, 97, 52, 49, 52, 49, 52, 48, 100, 101, 53, 100, 97, 101, 50, 50, 50, 51, 98, 48, 48, 51, 54, 49, 97, 51, 57, 54, 49, 55, 55, 97, 57, 99, 98, 52, 49, 48, 102, 102, 54, 49, 102, 50, 48, 48, 49, 53, 97, 100] := by decide +kernel
theorem hexAbc : strOf (hexOf (sha [97, 98, 99])) = .string ⟨#[98, 97, 55, 56, 49, 54, 98, 102, 56, 102, 48, 49, 99, 102, 101, 97, 52, 49, 52, 49, 52, 48, 100, 101, 53, 100, 97, 101, 50, 50, 50, 51, 98, 48, 48, 51, 54, 49, 97, 51, 57, 54, 49, 55, 55, 97, 57, 99, 98, 52, 49, 48, 102, 102, 54, 49, 102, 50, 48, 48, 49, 53, 97, 100]⟩ := by rw [hexAbc0]; rfl
theorem hexAB0 : hexOf [0, 171] = [48, 48, 97, 98] := by decide +kernel
theorem hexAB : strOf (hexOf [0, 171]) = .string ⟨#[48, 48, 97, 98]⟩ := by rw [hexAB0]; rfl
theorem conv22 (w : World) (C : Array Value) (n c : Nat) : (convert 22 22 (.slice (some ⟨w.heap.size, 0, none⟩) n c)).run Tryd.prog (w.alloc (.cells C 5)) = .ok (.slice (some ⟨w.heap.size, 0, none⟩) n c) (w.alloc (.cells C 5 (C.size, C.size + 1))) :=
  Lib.run_convert_bytes_const w 22 5 C n c Tryd.underlying22 Tryd.underlying5
theorem Rd.new (w : World) (t : TypeId) (cs : List Value) (fr : Nat × Nat) : Rd (w.alloc (.cells cs.toArray t fr)) (some ⟨w.heap.size, 0, none⟩) cs := by
  refine .inr ⟨w.heap.size, 0, rfl, by simp, fun j u hu => ?_⟩
  have h := heap_alloc_new w (.cells cs.toArray t fr)
  simp only [World.cell?, h]
  simpa using hu
set_option maxRecDepth 100000 in
set_option maxHeartbeats 1000000 in
theorem lives_any (w : World) (hk : HasK w) : Calls Tryd.prog 18 #[] w fun e w' => e = .returned (.bool true) ∧ Below w.heap.size w w' := by
  go_enter Tryd.func18, Tryd.ntmps18
  go_wp2_with fail
  refine (sum_any none 0 [] w (Rd.nil _ _) (by simp) hk).mono ?_
  rintro e w1 ⟨v, rfl, own1, b1⟩
  obtain ⟨g1, c1, rfl, _, _, _⟩ := own_form own1 (by omega)
  have hk1 := hk.below b1
  go_wp2_with fail
  refine (hex_any (some ⟨g1, 0, none⟩) c1 (sha []) w1 (Rd.of_own own1) (by decide +kernel)).mono ?_
  rintro e w2 ⟨rfl, b2⟩
  have B2 : Hid (Below w.heap.size w w2) := b1.trans (b2.mono b1.size)
  have hk2 := hk1.below b2
  clear own1 b1 b2 hk1
  rw [hexNil]
  have hcv := conv22
  go_wp2_with fail
  have hN := Rd.new w2 5 (bvals [97, 98, 99]) (3, 4)
  generalize hW : w2.alloc _ = W3
  have B3 : Hid (Below w.heap.size w W3) := by rw [← hW]; exact B2.out.alloc B2.out.size _
  have hk3 : HasK W3 := by rw [← hW]; exact hk2.below ((Below.refl _ _).alloc (Nat.le_refl _) _)
  have hR : Rd W3 (some ⟨w2.heap.size, 0, none⟩) (bvals [97, 98, 99]) := by rw [← hW]; exact hN
  generalize w2.heap.size = g2 at *
  clear hW hN hk2 B2
  refine (sum_any (some ⟨g2, 0, none⟩) 3 [97, 98, 99] W3 hR (by simp) hk3).mono ?_
  rintro e w4 ⟨v, rfl, own1, b1⟩
  obtain ⟨g1, c1, rfl, _, _, _⟩ := own_form own1 (by omega)
  have hk1 := hk3.below b1
  go_wp2_with fail
  refine (hex_any (some ⟨g1, 0, none⟩) c1 (sha [97, 98, 99]) w4 (Rd.of_own own1) (by decide +kernel)).mono ?_
  rintro e w5 ⟨rfl, b2⟩
  have B4 : Hid (Below w.heap.size w w5) := (B3.out.trans (b1.mono B3.out.size)).trans (b2.mono (Nat.le_trans B3.out.size b1.size))
  clear own1 b1 b2 hk1 B3 hk3 hR
  rw [hexAbc]
  go_wp2_with fail
  have hB := Blk.new w5 5 (bvals [0, 171])
  generalize hW : w5.alloc _ = W6
  have B6 : Hid (Below w.heap.size w W6) := by rw [← hW]; exact B4.out.alloc B4.out.size _
  have hR : Rd W6 (some ⟨w5.heap.size, 0, none⟩) (bvals [0, 171]) := by rw [← hW]; exact Rd.of_blk hB 0
  generalize w5.heap.size = g5 at *
  clear hW hB B4
  refine (hex_any (some ⟨g5, 0, none⟩) 2 [0, 171] W6 hR (by simp)).mono ?_
  rintro e w7 ⟨rfl, b2⟩
  have B7 : Hid (Below w.heap.size w w7) := B6.out.trans (b2.mono B6.out.size)
  clear b2 B6 hR
  rw [hexAB]
  go_wp2_with fail
  go_ret
  exact ⟨rfl, B7.out⟩
end Go.Proofs.YtleeacgimikdbaaDoor
