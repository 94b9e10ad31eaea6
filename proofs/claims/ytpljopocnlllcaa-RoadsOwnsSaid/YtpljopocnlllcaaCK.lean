/- The plain law of the clocks. -/
import Derived.Test.YtpljopocnlllcaaLV
namespace Go.Proofs.Ytpljopocnlllcaa
open Go.RowKit
structure DeedsAt (w : World) (A : Option Addr) (l : List Dd) : Prop where
  at_ : ∀ i (h : i < l.length), ∃ b off, A = some ⟨b, off, none⟩ ∧ b < w.heap.size ∧ (∀ j v, l[i].cells[j]? = some v → w.cell? ⟨b, off + i * 7 + j, none⟩ = some v) ∧ l[i].ok w
theorem DeedsAt.below {w w' : World} {A : Option Addr} {l : List Dd} (h : DeedsAt w A l) (hb : Below w.heap.size w w') : DeedsAt w' A l := ⟨fun i hi => by
  obtain ⟨b, off, hA, hlt, hc, hok⟩ := h.at_ i hi
  exact ⟨b, off, hA, Nat.lt_of_lt_of_le hlt hb.size, fun j v hv => (World.cell?_of_block (w := w) (a := ⟨b, off + i * 7 + j, none⟩) (hb.block b hlt)).trans (hc j v hv), hok.below hb⟩⟩
structure Ran (s0 s : St) (k : Nat) : Prop where
  good : s.good
  len : s.clocks.length = 5
  t0 : s0.time ≤ s.time
  t1 : s.time ≤ s0.time + 64 * k
  c0 : ∀ d, d < 5 → s0.clocks.getD d 0 ≤ s.clocks.getD d 0
  c1 : ∀ d, d < 5 → 8 * (s.clocks.getD d 0 - s0.clocks.getD d 0) ≤ 9 * (s.time - s0.time)
  c2 : ∀ d, d < 5 → 7 * (s.time - s0.time) ≤ 8 * (s.clocks.getD d 0 - s0.clocks.getD d 0)
theorem Ran.refl (s : St) (h : s.good) (hl : s.clocks.length = 5) : Ran s s 0 := ⟨h, hl, by omega, by omega, fun _ _ => by omega, fun _ _ => by omega, fun _ _ => by omega⟩
theorem goes_both (m z : Int) : 7 * clampI m 0 64 ≤ 8 * goesF m z ∧ 8 * goesF m z ≤ 9 * clampI m 0 64 := by unfold goesF clampI; omega
theorem clamp_clamp (n : Int) : clampI (clampI n 0 64) 0 64 = clampI n 0 64 := by unfold clampI; omega
theorem passSt_at (s : St) (n : Int) (sk : List Int) (d : Nat) (hd : d < s.clocks.length) : (passSt s n sk).clocks.getD d 0 = addF (s.clocks.getD d 0) (tk n sk d) := by
  unfold passSt clocksTo
  simp [List.getD_eq_getElem?_getD, hd]
theorem Ran.step {s0 s : St} {k : Nat} (h : Ran s0 s k) (hk : k ≤ 200) (h0 : 0 ≤ s0.time ∧ s0.time ≤ 6400) (hc : ∀ d, d < 5 → 0 ≤ s0.clocks.getD d 0 ∧ s0.clocks.getD d 0 ≤ 7200) (n : Int) (sk : List Int) : Ran s0 (passSt s n sk) (k + 1) := by
  have hm : 0 ≤ clampI n 0 64 ∧ clampI n 0 64 ≤ 64 := by unfold clampI; omega
  have ht : (passSt s n sk).time = s.time + clampI n 0 64 := by
    show min _ (s.time + clampI n 0 64) = _
    have := h.t1
    omega
  have hcl : ∀ d, d < 5 → ∃ G, (passSt s n sk).clocks.getD d 0 = s.clocks.getD d 0 + G ∧ 7 * clampI n 0 64 ≤ 8 * G ∧ 8 * G ≤ 9 * clampI n 0 64 := fun d hd => by
    have hg := goes_both (clampI n 0 64) (sk.getD d 0)
    rw [clamp_clamp] at hg
    refine ⟨goesF (clampI n 0 64) (sk.getD d 0), ?_, hg.1, hg.2⟩
    rw [passSt_at s n sk d (by rw [h.len]; exact hd)]
    have e : tk n sk d = goesF (clampI n 0 64) (sk.getD d 0) := rfl
    rw [e]
    generalize goesF (clampI n 0 64) (sk.getD d 0) = G at *
    have a := h.c0 d hd
    have b := h.c1 d hd
    have c := hc d hd
    have t := h.t1
    clear ht e
    unfold addF tickF clampI at *
    omega
  refine ⟨passSt_good s n sk h.good, ?_, ?_, ?_, ?_, ?_, ?_⟩
  · show (clocksTo s n sk s.clocks.length).length = 5
    rw [clocksTo_length _ _ _ _ (Nat.le_refl _)]
    exact h.len
  · rw [ht]; have := h.t0; omega
  · rw [ht]; have := h.t1; omega
  · intro d hd
    obtain ⟨G, e, g1, g2⟩ := hcl d hd
    have := h.c0 d hd
    omega
  · intro d hd
    obtain ⟨G, e, g1, g2⟩ := hcl d hd
    have := h.c1 d hd
    omega
  · intro d hd
    obtain ⟨G, e, g1, g2⟩ := hcl d hd
    have := h.c2 d hd
    omega
theorem Ran.small {s : St} {k : Nat} (h : Ran (st0 5) s k) (hk : k ≤ 100) : (0 ≤ s.time ∧ s.time ≤ 6400) ∧ ∀ d, d < 5 → 0 ≤ s.clocks.getD d 0 ∧ s.clocks.getD d 0 ≤ 7200 := by
  have t0 := h.t0
  have t1 := h.t1
  have e : (st0 5).time = 0 := rfl
  have ec : ∀ d, d < 5 → (st0 5).clocks.getD d 0 = 0 := by decide
  refine ⟨by omega, fun d hd => ?_⟩
  have a := h.c0 d hd
  have b := h.c1 d hd
  have c := ec d hd
  omega
theorem clockF_at (s : St) (hl : s.clocks.length = 5) (k : Nat) (h0 : 1 ≤ k) (h1 : k ≤ 5) : clockF s (k : Int) = s.clocks.getD (k - 1) 0 := by
  unfold clockF
  rw [if_pos (by rw [hl]; omega)]
  simp
def wasOf (s : St) (k : Nat) : List Int := (List.range 6).map fun j => if j < k then clockF s (j : Int) else 0
theorem wasOf_one (s : St) : wasOf s 1 = [0, 0, 0, 0, 0, 0] := by
  have : clockF s 0 = 0 := by unfold clockF; simp
  simp [wasOf, List.range_succ, this]
theorem wasOf_set (s : St) (k : Nat) : (wasOf s k).set k (clockF s (k : Int)) = wasOf s (k + 1) := by
  apply List.ext_getElem
  · simp [wasOf]
  · intro i h1 h2
    have hi : i < 6 := by simpa [wasOf] using h2
    simp only [wasOf, List.getElem_set, List.getElem_map, List.getElem_range]
    by_cases e : k = i
    · subst e; simp
    · rw [if_neg e]
      by_cases hik : i < k
      · rw [if_pos hik, if_pos (by omega)]
      · rw [if_neg hik, if_neg (by omega)]
theorem wasOf_at (s : St) (k : Nat) (h : k < 6) : (wasOf s 6)[k]? = some (clockF s (k : Int)) := by
  simp [wasOf, h]
theorem bound_le (n t c : Int) (h : boundF n ≤ t) (ht : t ≤ 6400) (hc : 7 * t ≤ 8 * c) : n ≤ c := by unfold boundF tickF clampI at h; omega
end Go.Proofs.Ytpljopocnlllcaa
