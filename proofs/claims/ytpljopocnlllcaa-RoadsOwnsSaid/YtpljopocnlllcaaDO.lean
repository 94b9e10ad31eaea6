/- A slice of deeds that comes in. -/
import Derived.Test.YtpljopocnlllcaaOS
import Derived.Test.YtpljopocnlllcaaCK
import Derived.ProofKit
import Derived.ChangeOld
import Derived.Carry
import Derived.Deep.DeepHandedRow
namespace Go.Proofs.Ytpljopocnlllcaa
open Go.ChangeShapes Go.WideShapes Go.ChangeAt Go.RowKit
theorem u8_of {z : Int} (h : (Lit.int .u8 z).wf = true) : z = ((UInt8.ofNat z.toNat).toNat : Int) := by
  have := bounds_u8 h
  rw [UInt8.toNat_ofNat_of_lt' (by show z.toNat < 256; omega)]
  omega
theorem open_bt {H : Type} {enc : TypeId × Value → H} {P : Program} {W : World} {base : Nat} {spare : Nat → Bool} {held : Bool} {t e : TypeId} {fuel : Nat} {cs : List Value} {x : DataW H × List MemPlace}
    (ht : P.underlying t = some (.slice e)) (he : P.underlying e = some (.int .u8)) (hc : P.cellsOf e = 1) (hf : DataW.trod enc P W base spare held fuel t cs = some x) :
    ∃ A bs c, cs = [.slice A (List.length bs) c] ∧ Rd W A (bvals bs) ∧ bs.length ≤ c ∧ c ≤ maxLen := by
  rcases open_ints ht he hc hf with ⟨hcs, _⟩ | ⟨y, l, c, zs, hcs, _, hl, hm, hz, _, hcell, hwz⟩
  · exact ⟨none, [], 0, hcs, Rd.nil _ _, by simp, by simp⟩
  · have hz' : l ≤ zs.length := by rw [hz]; split <;> omega
    have hbl : ((zs.take l).map fun z => UInt8.ofNat z.toNat).length = l := by simp; omega
    refine ⟨some y, (zs.take l).map fun z => UInt8.ofNat z.toNat, c, by rw [hcs, hbl], ?_, by rw [hbl]; exact hl, hm⟩
    rcases Nat.eq_zero_or_pos l with h0 | h0
    · subst h0
      left
      simp [bvals]
    · right
      have c0 := hcell 0 (by omega)
      obtain ⟨b, off, spot⟩ := y
      have hsp : spot = none := by simpa [Addr.add] using World.cell?_spot c0
      subst hsp
      refine ⟨b, off, rfl, ?_, fun j u hu => ?_⟩
      · have := World.block_lt_of_cell? W _ c0
        simpa [Addr.add] using this
      · obtain ⟨hj, rfl⟩ := bvals_some hu
        rw [hbl] at hj
        have cj := hcell j (by omega)
        rw [Addr.add_lit] at cj
        rw [cj]
        have hmem : zs.getD j 0 ∈ zs := by
          rw [List.getD_eq_getElem?_getD, List.getElem?_eq_getElem (by omega)]
          exact List.getElem_mem _
        have e1 := u8_of (hwz _ hmem)
        unfold bval
        congr 2
        rw [e1]
        congr 2
        have hj2 : j < zs.length := by omega
        simp [List.getD_eq_getElem?_getD, List.getElem?_eq_getElem hj2, hj]
theorem open_it {H : Type} {enc : TypeId × Value → H} {P : Program} {W : World} {base : Nat} {spare : Nat → Bool} {held : Bool} {t e : TypeId} {fuel : Nat} {cs : List Value} {x : DataW H × List MemPlace}
    (ht : P.underlying t = some (.slice e)) (he : P.underlying e = some (.int .i64)) (hc : P.cellsOf e = 1) (hf : DataW.trod enc P W base spare held fuel t cs = some x) :
    ∃ A zs c, cs = [.slice A (List.length zs) c] ∧ Rd W A (ivals zs) ∧ zs.length ≤ c ∧ c ≤ maxLen := by
  rcases open_ints ht he hc hf with ⟨hcs, _⟩ | ⟨y, l, c, zs, hcs, _, hl, hm, hz, _, hcell, hwz⟩
  · exact ⟨none, [], 0, hcs, .inl rfl, by simp, by simp⟩
  · have hz' : l ≤ zs.length := by rw [hz]; split <;> omega
    have hbl : (zs.take l).length = l := by simp; omega
    refine ⟨some y, zs.take l, c, by rw [hcs, hbl], ?_, by rw [hbl]; exact hl, hm⟩
    rcases Nat.eq_zero_or_pos l with h0 | h0
    · subst h0
      left
      simp [ivals]
    · right
      have c0 := hcell 0 (by omega)
      obtain ⟨b, off, spot⟩ := y
      have hsp : spot = none := by simpa [Addr.add] using World.cell?_spot c0
      subst hsp
      refine ⟨b, off, rfl, ?_, fun j u hu => ?_⟩
      · have := World.block_lt_of_cell? W _ c0
        simpa [Addr.add] using this
      · have hj : j < l := by
          have := (List.getElem?_eq_some_iff.1 hu).1
          rw [ivals_length, hbl] at this
          exact this
        have cj := hcell j (by omega)
        rw [Addr.add_lit] at cj
        rw [cj, ← hu, ivals_at _ _ (by rw [hbl]; exact hj)]
        have hj2 : j < zs.length := by omega
        simp [List.getD_eq_getElem?_getD, List.getElem?_eq_getElem hj2, hj]
theorem open_deeds {H : Type} {enc : TypeId × Value → H} {W : World} {base : Nat} {v : Value} {d : DataW H} {p : List MemPlace}
    (hval : Value.okWide Try.prog W .any base 22 v) (h : DataW.Trod enc Try.prog W 0 (fun _ => true) true 22 v d p) :
    ∃ A l c, v = .slice A (List.length l) c ∧ l.length ≤ c ∧ c ≤ maxLen ∧ DeedsAt W A l := by
  obtain ⟨a0, len0, cap0, rfl⟩ := okWide_slice Try.underlying22 hval
  obtain ⟨fuel, hf⟩ := h
  rcases open_structs Try.underlying22 Try.underlying32 (by kernel_rfl) (by kernel_rfl) hf with hcs | ⟨x, l, c, hcs, hl, hm, hall⟩
  · simp [Value.cells] at hcs
    obtain ⟨rfl, rfl, rfl⟩ := hcs
    exact ⟨none, [], 0, rfl, by simp, by simp, ⟨fun i hi => by simp at hi⟩⟩
  · simp [Value.cells] at hcs
    obtain ⟨rfl, rfl, rfl⟩ := hcs
    have hex : ∀ i, ∃ q : Dd, i < len0 → (∀ j v, q.cells[j]? = some v → W.cell? (x.add (i * 7 + j)) = some v) ∧ q.ok W := fun i => by
      by_cases hi : i < len0
      · obtain ⟨v0, y0, n0, c0, t0⟩ := hall i hi 0 _ rfl
        obtain ⟨v1, y1, n1, c1, t1⟩ := hall i hi 1 _ rfl
        obtain ⟨v2, y2, n2, c2, t2⟩ := hall i hi 2 _ rfl
        obtain ⟨v3, y3, n3, c3, t3⟩ := hall i hi 3 _ rfl
        obtain ⟨v4, y4, n4, c4, t4⟩ := hall i hi 4 _ rfl
        obtain ⟨v5, y5, n5, c5, t5⟩ := hall i hi 5 _ rfl
        obtain ⟨v6, y6, n6, c6, t6⟩ := hall i hi 6 _ rfl
        obtain ⟨z0, rfl, w0⟩ := int_cell Try.underlying3 t0
        obtain ⟨z1, rfl, _⟩ := int_cell Try.underlying3 t1
        obtain ⟨z2, rfl, _⟩ := int_cell Try.underlying3 t2
        obtain ⟨z3, rfl, _⟩ := int_cell Try.underlying3 t3
        obtain ⟨A4, l4, k4, e4, r4, q4, m4⟩ := open_it Try.underlying29 Try.underlying3 (by kernel_rfl) t4
        obtain ⟨A5, l5, k5, e5, r5, q5, m5⟩ := open_bt Try.underlying30 Try.underlying5 (by kernel_rfl) t5
        obtain ⟨b6, rfl⟩ := bool_cell Try.underlying4 t6
        injection e4 with e4
        injection e5 with e5
        subst e4 e5
        have hb := bounds_i64 w0
        refine ⟨⟨z0, z1, z2, z3, A4, l4, k4, A5, l5, k5, b6⟩, fun _ => ⟨fun j v hv => ?_, ⟨r4, q4, m4, r5, q5, m5, by show _ ≤ z0; omega, by show z0 ≤ _; omega⟩⟩⟩
        match j, hv with
        | 0, hv => cases hv; exact c0
        | 1, hv => cases hv; exact c1
        | 2, hv => cases hv; exact c2
        | 3, hv => cases hv; exact c3
        | 4, hv => cases hv; exact c4
        | 5, hv => cases hv; exact c5
        | 6, hv => cases hv; exact c6
        | j + 7, hv => simp [Dd.cells] at hv
      · exact ⟨⟨0, 0, 0, 0, none, [], 0, none, [], 0, false⟩, fun h => absurd h hi⟩
    obtain ⟨f, hf2⟩ : ∃ f : Nat → Dd, ∀ i, i < len0 → (∀ j v, (f i).cells[j]? = some v → W.cell? (x.add (i * 7 + j)) = some v) ∧ (f i).ok W := ⟨fun i => Classical.choose (hex i), fun i => Classical.choose_spec (hex i)⟩
    have hl2 : ((List.range len0).map f).length = len0 := by simp
    refine ⟨some x, (List.range len0).map f, cap0, by rw [hl2], by rw [hl2]; exact hl, hm, ⟨fun i hi => ?_⟩⟩
    rw [hl2] at hi
    obtain ⟨hc, hok⟩ := hf2 i hi
    obtain ⟨b, off, spot⟩ := x
    have c0 := (hf2 0 (by omega)).1 0 _ rfl
    have hsp : spot = none := by simpa [Addr.add] using World.cell?_spot c0
    subst hsp
    have hbl : b < W.heap.size := by
      have := World.block_lt_of_cell? W _ c0
      simpa [Addr.add] using this
    refine ⟨b, off, rfl, hbl, ?_, by simpa using hok⟩
    intro j v hv
    have := hc j v (by simpa using hv)
    rw [Addr.add_lit] at this
    rw [Nat.add_assoc]
    exact this
end Go.Proofs.Ytpljopocnlllcaa
