/- Over; the document's examples. -/
import Derived.Test.YtiibkliaokkpdaaTKb
import Derived.Deep.RegionWith
namespace Go.Proofs.Ytiibkliaokkpdaa
open Go.RowKit
def overF (a b : Int) : Bool := decide (tickF b ≤ tickF a) || (tickF a == 1099511627776)
theorem over_any (a b : Int) (w : World) : Calls Try.prog 11 #[.int .i64 a, .int .i64 b] w fun e w' => e = .returned (.bool (overF a b)) ∧ w = w' := by
  have hf : Hid (overF a b = (decide (tickF b ≤ tickF a) || (tickF a == 1099511627776))) := rfl
  have ht := Lib.hid (tick_any a)
  go_enter Try.func11, Try.ntmps11
  go_wp2_with fail
  refine (tick_any _ _).mono ?_
  rintro e w' ⟨rfl, rfl⟩
  go_wp2_with fail
  refine (tick_any _ _).mono ?_
  rintro e w' ⟨rfl, rfl⟩
  generalize tickF a = x at *
  generalize tickF b = y at *
  by_cases h : y ≤ x
  · go_wp2_with fail
    go_ret
    exact ⟨by rw [hf.out]; simp [h], rfl⟩
  · have h' : decide (y ≤ x) = false := by simpa using h
    go_wp2_with fail
    refine (ht.out _).mono ?_
    rintro e w' ⟨rfl, rfl⟩
    go_wp2_with fail
    go_ret
    exact ⟨by rw [hf.out, h']; rfl, rfl⟩
set_option maxRecDepth 100000 in
theorem lives_any (w : World) : Calls Try.prog 13 #[] w fun e w' => e = .returned (.bool true) ∧ w = w' := by
  go_enter Try.func13, Try.ntmps13
  go_wp2_with fail
  refine (add_any _ _ _).mono ?_
  rintro e w' ⟨rfl, rfl⟩
  rw [show addF 1099511627775 5 = 1099511627776 from by decide]
  go_wp2_with fail
  refine (over_any _ _ _).mono ?_
  rintro e w' ⟨rfl, rfl⟩
  rw [show overF 3 3 = true from by decide]
  go_wp2_with fail
  refine (over_any _ _ _).mono ?_
  rintro e w' ⟨rfl, rfl⟩
  rw [show overF 2 3 = false from by decide]
  go_wp2_with fail
  refine (goes_any _ _ _).mono ?_
  rintro e w' ⟨rfl, rfl⟩
  rw [show goesF 16 9 = 18 from by decide]
  go_wp2_with fail
  refine (goes_any _ _ _).mono ?_
  rintro e w' ⟨rfl, rfl⟩
  rw [show goesF 16 (-1) = 15 from by decide]
  go_wp2_with fail
  refine (goes_any _ _ _).mono ?_
  rintro e w' ⟨rfl, rfl⟩
  rw [show goesF 7 (-5) = 7 from by decide]
  go_wp2_with fail
  refine (bound_any _ _).mono ?_
  rintro e w' ⟨rfl, rfl⟩
  rw [show boundF 56 = 64 from by decide]
  go_wp2_with fail
  refine (bound_any _ _).mono ?_
  rintro e w' ⟨rfl, rfl⟩
  rw [show boundF 1 = 2 from by decide]
  go_wp2_with fail
  go_ret
  exact ⟨rfl, rfl⟩
structure PartsAt (w : World) (A : Option Addr) (l : List (Int × Int)) : Prop where
  at_ : ∀ i (h : i < l.length), ∃ b off, A = some ⟨b, off, none⟩ ∧ w.cell? ⟨b, off + i * 2, none⟩ = some (.int .i64 l[i].1) ∧ w.cell? ⟨b, off + i * 2 + 1, none⟩ = some (.int .i64 l[i].2)
theorem goes_ge (n s : Int) : 7 * clampI n 0 64 ≤ 8 * goesF n s := by unfold goesF clampI; omega
theorem bound_le (n t c : Int) (h : boundF n ≤ t) (ht : t ≤ 3840) (hc : 7 * t ≤ 8 * c) : n ≤ c := by unfold boundF tickF clampI at h; omega
def Hold (n : Nat) (v5 v6 v7 : Value) (w0 w : World) : Prop := ∃ k : Nat, ∃ t c : Int, ∃ q : Nat, k ≤ n ∧ k ≤ 60 ∧ v5 = .int .i64 t ∧ v6 = .int .i64 c ∧ v7 = .int .i64 (k : Int) ∧ 0 ≤ t ∧ t ≤ 64 * k ∧ 0 ≤ c ∧ c ≤ 72 * k ∧ 7 * t ≤ 8 * c ∧ w = w0.drewN q
set_option maxRecDepth 100000 in
set_option maxHeartbeats 2000000 in
theorem ticksBound_any (n0 : Int) (A : Option Addr) (cap : Nat) (l : List (Int × Int)) (w : World) (hp : PartsAt w A l) (hl : l.length ≤ maxLen) :
    Calls Try.prog 5 #[.int .i64 n0, .slice A l.length cap] w fun e w' => e = .returned (.bool true) ∧ ∃ q, w' = w.drewN q := by
  unfold maxLen at hl
  generalize hn : l.length = n at hl ⊢
  have HN := Lib.hid hn
  clear hn
  go_enter Try.func5, Try.ntmps5
  go_wp2_with fail
  go_loopw [5, 6, 7] (fun v5 v6 v7 wr => Hold n v5 v6 v7 w wr) (fun _ _ i _ => 60 - (intOf i).toNat)
  case atStart => exact ⟨0, 0, 0, 0, by omega, by omega, rfl, rfl, rfl, by omega, by omega, by omega, by omega, by omega, rfl⟩
  case round =>
    obtain ⟨k, t, c, q, hk, hk6, rfl, rfl, rfl, ht0, ht1, hc0, hc1, htc, rfl⟩ := hrel
    by_cases hlt : k < n ∧ k < 60
    · obtain ⟨hkn, hk60⟩ := hlt
      obtain ⟨b, off, rfl, h1, h2⟩ := hp.at_ k (by rw [HN.out]; exact hkn)
      generalize (l[k]'(by rw [HN.out]; exact hkn)) = p at h1 h2
      obtain ⟨N, S⟩ := p
      simp only at h1 h2
      have g1 := goes_ge N S
      have g2 := goesF_bd N S
      have gc : clampI N 0 64 = max 0 (min N 64) := rfl
      have hN : (N < 0 ∧ clampI N 0 64 = 0) ∨ (¬ N < 0 ∧ 64 < N ∧ clampI N 0 64 = 64) ∨ (¬ N < 0 ∧ ¬ 64 < N ∧ clampI N 0 64 = N) := by omega
      have hG := goes_any N S
      generalize goesF N S = G at *
      generalize clampI N 0 64 = m at *
      have hkn' : (k : Int) < (n : Int) := by omega
      have hk60' : (k : Int) < 60 := by omega
      have HG := Lib.hid hG
      clear hG gc
      obtain ⟨g20, g21⟩ := g2
      have HS : Hid (0 ≤ t + m ∧ t + m ≤ 64 * (k + 1) ∧ 0 ≤ c + G ∧ c + G ≤ 72 * (k + 1) ∧ 7 * (t + m) ≤ 8 * (c + G)) := by unfold Hid; omega
      rcases hN with ⟨n0, n1⟩ | ⟨n0, n1, n2⟩ | ⟨n0, n1, n2⟩
      all_goals
        subst m
        go_wp2_with fail
        go_region_with (go_at_call 14; refine (HG.out _).mono ?_; rintro e w' ⟨rfl, hw⟩; obtain rfl := hw.symm)
        all_goals
          go_wp2_with fail
          go_roundw
          case rel => exact ⟨k + 1, _, _, q + 1, by omega, by omega, rfl, rfl, by go_num, by have := HS.out; omega, by have := HS.out; omega, by have := HS.out; omega, by have := HS.out; omega, by have := HS.out; omega, rfl⟩
          case measure => simp [intOf]; omega
    · have hb := bound_le n0 t c
      have hB := bound_any n0
      generalize boundF n0 = B at *
      have HB := Lib.hid hB
      have hbb : Hid (B ≤ t → ¬ c < n0) := fun h hc => by have := hb h (by omega) htc; omega
      clear hb hB
      have HR : Hid (∀ wx : World, (∃ q, wx = w.drewN q) → Calls Try.prog 13 #[] wx fun e w' => e = .returned (.bool true) ∧ wx = w') := fun wx _ => lives_any wx
      by_cases hkn : k < n
      · have hk60 : ¬ (k : Int) < 60 := by omega
        have hkn' : (k : Int) < (n : Int) := by omega
        clear hlt
        by_cases hBt : B ≤ t
        · have hc := hbb.out hBt
          go_wp2_with fail
          refine (HB.out _).mono ?_
          rintro e w' ⟨rfl, hw⟩
          obtain rfl := hw.symm
          go_wp2_with fail
          refine (lives_any _).mono ?_
          rintro e w' ⟨rfl, hw⟩
          obtain rfl := hw.symm
          go_wp2_with fail
          go_ret
          exact ⟨rfl, q, rfl⟩
        · go_wp2_with fail
          refine (HB.out _).mono ?_
          rintro e w' ⟨rfl, hw⟩
          obtain rfl := hw.symm
          go_wp2_with fail
          refine (lives_any _).mono ?_
          rintro e w' ⟨rfl, hw⟩
          obtain rfl := hw.symm
          go_wp2_with fail
          go_ret
          exact ⟨rfl, q, rfl⟩
      · have hkn' : ¬ (k : Int) < (n : Int) := by omega
        clear hlt
        by_cases hBt : B ≤ t
        · have hc := hbb.out hBt
          go_wp2_with fail
          refine (HB.out _).mono ?_
          rintro e w' ⟨rfl, hw⟩
          obtain rfl := hw.symm
          go_wp2_with fail
          refine (lives_any _).mono ?_
          rintro e w' ⟨rfl, hw⟩
          obtain rfl := hw.symm
          go_wp2_with fail
          go_ret
          exact ⟨rfl, q, rfl⟩
        · go_wp2_with fail
          refine (HB.out _).mono ?_
          rintro e w' ⟨rfl, hw⟩
          obtain rfl := hw.symm
          go_wp2_with fail
          refine (lives_any _).mono ?_
          rintro e w' ⟨rfl, hw⟩
          obtain rfl := hw.symm
          go_wp2_with fail
          go_ret
          exact ⟨rfl, q, rfl⟩
end Go.Proofs.Ytiibkliaokkpdaa
