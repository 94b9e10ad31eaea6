/- A slice of byte slices that comes in. -/
import Derived.Test.YtleeacgimikdbaaDoorRK
import Derived.Test.YtleeacgimikdbaaDoorM1
namespace Go.Proofs.YtleeacgimikdbaaDoor
open Go.ChangeShapes Go.WideShapes Go.ChangeAt Go.RowKit
theorem open_bt {H : Type} {enc : TypeId × Value → H} {P : Program} {W : World} {base : Nat} {spare : Nat → Bool} {held : Bool} {t e : TypeId} {fuel : Nat} {cs : List Value} {x : DataW H × List MemPlace}
    (ht : P.underlying t = some (.slice e)) (he : P.underlying e = some (.int .u8)) (hc : P.cellsOf e = 1) (hf : DataW.trod enc P W base spare held fuel t cs = some x) :
    ∃ p : Pt, cs = [p.val] ∧ p.ok W := by
  rcases open_ints ht he hc hf with ⟨hcs, _⟩ | ⟨y, l, c, zs, hcs, _, hl, hm, hz, _, hcell, hwz⟩
  · exact ⟨⟨none, [], 0⟩, hcs, ⟨Rd.nil _ _, by simp, by simp⟩⟩
  · have hz' : l ≤ zs.length := by rw [hz]; split <;> omega
    have hbl : ((zs.take l).map fun z => UInt8.ofNat z.toNat).length = l := by simp; omega
    refine ⟨⟨some y, (zs.take l).map fun z => UInt8.ofNat z.toNat, c⟩, by rw [hcs]; simp only [Pt.val]; rw [hbl], ⟨?_, by simp only; rw [hbl]; exact hl, hm⟩⟩
    simp only
    rcases Nat.eq_zero_or_pos l with h0 | h0
    · subst h0
      left
      simp [bvals]
    · right
      have c0 := hcell 0 (by omega)
      obtain ⟨b, off, spot⟩ := y
      have hsp : spot = none := by simpa [Addr.add] using World.cell?_spot c0
      subst hsp
      refine ⟨b, off, rfl, ?_, fun j u hu => ?_⟩
      · have := World.block_lt_of_cell? W _ c0
        simpa [Addr.add] using this
      · obtain ⟨hj, rfl⟩ := bvals_some hu
        rw [hbl] at hj
        have cj := hcell j (by omega)
        rw [Addr.add_lit] at cj
        rw [cj]
        have hmem : zs.getD j 0 ∈ zs := by
          rw [List.getD_eq_getElem?_getD, List.getElem?_eq_getElem (by omega)]
          exact List.getElem_mem _
        have e1 := u8_of (hwz _ hmem)
        unfold bval
        congr 2
        rw [e1]
        congr 2
        have hj2 : j < zs.length := by omega
        simp [List.getD_eq_getElem?_getD, List.getElem?_eq_getElem hj2, hj]
/-- The same of a slice of byte slices. -/
theorem open_ps {H : Type} {enc : TypeId × Value → H} {P : Program} {W : World} {base : Nat} {t e q : TypeId} {v : Value} {d : DataW H} {p : List MemPlace}
    (ht : P.underlying t = some (.slice e)) (he : P.underlying e = some (.slice q)) (hq : P.underlying q = some (.int .u8)) (hce : P.cellsOf e = 1) (hcq : P.cellsOf q = 1)
    (hval : Value.okWide P W .any base t v) (h : DataW.Trod enc P W 0 (fun _ => true) true t v d p) :
    ∃ A ps c, v = .slice A (List.length ps) c ∧ ps.length ≤ c ∧ c ≤ maxLen ∧ Rps W A ps := by
  obtain ⟨a0, len0, cap0, rfl⟩ := okWide_slice ht hval
  obtain ⟨fuel, hf⟩ := h
  rcases Deep.open_slice1 ht hce hf with ⟨hcs, _⟩ | ⟨x, l, c, m, n, V, D, Pl, hcs, _, hl, hm, hmm, _, hall⟩
  · simp [Value.cells] at hcs
    obtain ⟨rfl, rfl, rfl⟩ := hcs
    exact ⟨none, [], 0, rfl, by simp, by simp, ⟨Rd.nil _ _, fun p hp => by simp at hp⟩⟩
  · simp [Value.cells] at hcs
    obtain ⟨rfl, rfl, rfl⟩ := hcs
    have hle : len0 ≤ m := by rw [hmm]; split <;> omega
    have hex : ∀ i, ∃ p : Pt, i < len0 → (V i = p.val ∧ p.ok W ∧ W.cell? (x.add i) = some p.val) := fun i => by
      by_cases hi : i < len0
      · obtain ⟨h1, h2⟩ := hall i (by omega)
        obtain ⟨p, hp, hok⟩ := open_bt he hq hcq h2
        have e : V i = p.val := by injection hp
        exact ⟨p, fun _ => ⟨e, hok, by rw [← e]; exact h1⟩⟩
      · exact ⟨⟨none, [], 0⟩, fun h => absurd h hi⟩
    obtain ⟨f, hf2⟩ : ∃ f : Nat → Pt, ∀ i, i < len0 → (V i = (f i).val ∧ (f i).ok W ∧ W.cell? (x.add i) = some (f i).val) := ⟨fun i => Classical.choose (hex i), fun i => Classical.choose_spec (hex i)⟩
    clear hex
    have hl2 : ((List.range len0).map fun i => f i).length = len0 := by simp
    refine ⟨some x, (List.range len0).map fun i => f i, cap0, by rw [hl2], by rw [hl2]; exact hl, hm, ⟨?_, ?_⟩⟩
    · rcases Nat.eq_zero_or_pos len0 with h0 | h0
      · subst h0
        left
        simp [pvals]
      · right
        have c0 := (hf2 0 h0).2.2
        obtain ⟨b, off, spot⟩ := x
        have hsp : spot = none := by simpa [Addr.add] using World.cell?_spot c0
        subst hsp
        refine ⟨b, off, rfl, ?_, fun j u hu => ?_⟩
        · have := World.block_lt_of_cell? W _ c0
          simpa [Addr.add] using this
        · have hj : j < len0 := by
            have := (List.getElem?_eq_some_iff.1 hu).1
            rw [pvals_length, hl2] at this
            exact this
          have cj := (hf2 j hj).2.2
          rw [Addr.add_lit] at cj
          rw [cj, ← hu, pvals_at _ _ (by rw [hl2]; exact hj)]
          simp
    · intro p hp
      obtain ⟨i, hi, rfl⟩ := List.mem_map.1 hp
      exact (hf2 i (by simpa using hi)).2.1
end Go.Proofs.YtleeacgimikdbaaDoor
