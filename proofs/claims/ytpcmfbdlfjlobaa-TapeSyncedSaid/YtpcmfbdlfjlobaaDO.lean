/- A slice of deeds that comes in (Tape). -/
import Derived.Test.YtpcmfbdlfjlobaaOS
import Derived.Test.YtpcmfbdlfjlobaaV3
import Derived.ProofKit
import Derived.ChangeOld
import Derived.Carry
import Derived.Deep.DeepHandedRow
namespace Go.Proofs.Ytpcmfbdlfjlobaa
open Go.ChangeShapes Go.WideShapes Go.ChangeAt Go.RowKit
structure DeedsAt (w : World) (A : Option Addr) (l : List Dd) : Prop where
  at_ : ∀ i (h : i < l.length), ∃ b off, A = some ⟨b, off, none⟩ ∧ b < w.heap.size ∧ (∀ j v, l[i].cells[j]? = some v → w.cell? ⟨b, off + i * 4 + j, none⟩ = some v) ∧ l[i].ok w
theorem u8_of {z : Int} (h : (Lit.int .u8 z).wf = true) : z = ((UInt8.ofNat z.toNat).toNat : Int) := by
  have := bounds_u8 h
  rw [UInt8.toNat_ofNat_of_lt' (by show z.toNat < 256; omega)]
  omega
theorem open_bt {H : Type} {enc : TypeId × Value → H} {P : Program} {W : World} {base : Nat} {spare : Nat → Bool} {held : Bool} {t e : TypeId} {fuel : Nat} {cs : List Value} {x : DataW H × List MemPlace}
    (ht : P.underlying t = some (.slice e)) (he : P.underlying e = some (.int .u8)) (hc : P.cellsOf e = 1) (hf : DataW.trod enc P W base spare held fuel t cs = some x) :
    ∃ A bs c, cs = [.slice A (List.length bs) c] ∧ Rd W A (bvals bs) ∧ bs.length ≤ c ∧ c ≤ maxLen := by
  rcases open_ints ht he hc hf with ⟨hcs, _⟩ | ⟨y, l, c, zs, hcs, _, hl, hm, hz, _, hcell, hwz⟩
  · exact ⟨none, [], 0, hcs, Rd.nil _ _, by simp, by simp⟩
  · have hz' : l ≤ zs.length := by rw [hz]; split <;> omega
    have hbl : ((zs.take l).map fun z => UInt8.ofNat z.toNat).length = l := by simp; omega
    refine ⟨some y, (zs.take l).map fun z => UInt8.ofNat z.toNat, c, by rw [hcs, hbl], ?_, by rw [hbl]; exact hl, hm⟩
    rcases Nat.eq_zero_or_pos l with h0 | h0
    · subst h0
      left
      simp [bvals]
    · right
      have c0 := hcell 0 (by omega)
      obtain ⟨b, off, spot⟩ := y
      have hsp : spot = none := by simpa [Addr.add] using World.cell?_spot c0
      subst hsp
      refine ⟨b, off, rfl, ?_, fun j u hu => ?_⟩
      · have := World.block_lt_of_cell? W _ c0
        simpa [Addr.add] using this
      · obtain ⟨hj, rfl⟩ := bvals_some hu
        rw [hbl] at hj
        have cj := hcell j (by omega)
        rw [Addr.add_lit] at cj
        rw [cj]
        have hmem : zs.getD j 0 ∈ zs := by
          rw [List.getD_eq_getElem?_getD, List.getElem?_eq_getElem (by omega)]
          exact List.getElem_mem _
        have e1 := u8_of (hwz _ hmem)
        unfold bval
        congr 2
        rw [e1]
        congr 2
        have hj2 : j < zs.length := by omega
        simp [List.getD_eq_getElem?_getD, List.getElem?_eq_getElem hj2, hj]
theorem open_deeds {H : Type} {enc : TypeId × Value → H} {W : World} {base : Nat} {v : Value} {d : DataW H} {p : List MemPlace}
    (hval : Value.okWide Try.prog W .any base 22 v) (h : DataW.Trod enc Try.prog W 0 (fun _ => true) true 22 v d p) :
    ∃ A l c, v = .slice A (List.length l) c ∧ l.length ≤ c ∧ c ≤ maxLen ∧ DeedsAt W A l := by
  obtain ⟨a0, len0, cap0, rfl⟩ := okWide_slice Try.underlying22 hval
  obtain ⟨fuel, hf⟩ := h
  rcases open_structs Try.underlying22 Try.underlying30 (by kernel_rfl) (by kernel_rfl) hf with hcs | ⟨x, l, c, hcs, hl, hm, hall⟩
  · simp [Value.cells] at hcs
    obtain ⟨rfl, rfl, rfl⟩ := hcs
    exact ⟨none, [], 0, rfl, by simp, by simp, ⟨fun i hi => by simp at hi⟩⟩
  · simp [Value.cells] at hcs
    obtain ⟨rfl, rfl, rfl⟩ := hcs
    have hex : ∀ i, ∃ q : Dd, i < len0 → (∀ j v, q.cells[j]? = some v → W.cell? (x.add (i * 4 + j)) = some v) ∧ q.ok W := fun i => by
      by_cases hi : i < len0
      · obtain ⟨v0, y0, n0, c0, t0⟩ := hall i hi 0 _ rfl
        obtain ⟨v1, y1, n1, c1, t1⟩ := hall i hi 1 _ rfl
        obtain ⟨v2, y2, n2, c2, t2⟩ := hall i hi 2 _ rfl
        obtain ⟨v3, y3, n3, c3, t3⟩ := hall i hi 3 _ rfl
        obtain ⟨z0, rfl, w0⟩ := int_cell Try.underlying3 t0
        obtain ⟨z1, rfl, w1⟩ := int_cell Try.underlying3 t1
        obtain ⟨z2, rfl, w2⟩ := int_cell Try.underlying3 t2
        obtain ⟨A5, l5, k5, e5, r5, q5, m5⟩ := open_bt Try.underlying28 Try.underlying5 (by kernel_rfl) t3
        injection e5 with e5
        subst e5
        have hb0 := bounds_i64 w0
        have hb1 := bounds_i64 w1
        have hb2 := bounds_i64 w2
        refine ⟨⟨z0, z1, z2, A5, l5, k5⟩, fun _ => ⟨fun j v hv => ?_, ⟨r5, q5, m5, ⟨by show _ ≤ z0; omega, by show z0 ≤ _; omega⟩, ⟨by show _ ≤ z2; omega, by show z2 ≤ _; omega⟩, ⟨by show _ ≤ z1; omega, by show z1 ≤ _; omega⟩⟩⟩⟩
        match j, hv with
        | 0, hv => cases hv; exact c0
        | 1, hv => cases hv; exact c1
        | 2, hv => cases hv; exact c2
        | 3, hv => cases hv; exact c3
        | j + 4, hv => simp [Dd.cells] at hv
      · exact ⟨⟨0, 0, 0, none, [], 0⟩, fun h => absurd h hi⟩
    obtain ⟨f, hf2⟩ : ∃ f : Nat → Dd, ∀ i, i < len0 → (∀ j v, (f i).cells[j]? = some v → W.cell? (x.add (i * 4 + j)) = some v) ∧ (f i).ok W := ⟨fun i => Classical.choose (hex i), fun i => Classical.choose_spec (hex i)⟩
    have hl2 : ((List.range len0).map f).length = len0 := by simp
    refine ⟨some x, (List.range len0).map f, cap0, by rw [hl2], by rw [hl2]; exact hl, hm, ⟨fun i hi => ?_⟩⟩
    rw [hl2] at hi
    obtain ⟨hc, hok⟩ := hf2 i hi
    obtain ⟨b, off, spot⟩ := x
    have c0 := (hf2 0 (by omega)).1 0 _ rfl
    have hsp : spot = none := by simpa [Addr.add] using World.cell?_spot c0
    subst hsp
    have hbl : b < W.heap.size := by
      have := World.block_lt_of_cell? W _ c0
      simpa [Addr.add] using this
    refine ⟨b, off, rfl, hbl, ?_, by simpa using hok⟩
    intro j v hv
    have := hc j v (by simpa using hv)
    rw [Addr.add_lit] at this
    rw [Nat.add_assoc]
    exact this
end Go.Proofs.Ytpcmfbdlfjlobaa
