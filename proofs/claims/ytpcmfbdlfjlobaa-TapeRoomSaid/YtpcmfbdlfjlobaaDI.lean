/- A slice of numbers that comes in, as an argument, with the numbers' bounds. -/
import Derived.Test.YtpcmfbdlfjlobaaKG
import Derived.Test.YtpcmfbdlfjlobaaOS
import Derived.ProofKit
import Derived.ChangeOld
import Derived.Carry
import Derived.Deep.DeepHandedRow
import Derived.OpenShut
namespace Go.Proofs.Ytpcmfbdlfjlobaa
open Go.ChangeShapes Go.WideShapes Go.ChangeAt Go.RowKit
theorem open_is {H : Type} {enc : TypeId × Value → H} {P : Program} {W : World} {base : Nat} {t e : TypeId} {v : Value} {d : DataW H} {p : List MemPlace}
    (ht : P.underlying t = some (.slice e)) (he : P.underlying e = some (.int .i64)) (hc : P.cellsOf e = 1)
    (hval : Value.okWide P W .any base t v) (h : DataW.Trod enc P W 0 (fun _ => true) true t v d p) :
    ∃ A zs c, v = .slice A (List.length zs) c ∧ zs.length ≤ c ∧ c ≤ maxLen ∧ Rd W A (ivals zs) ∧ ∀ z ∈ zs, -9223372036854775808 ≤ z ∧ z ≤ 9223372036854775807 := by
  obtain ⟨a0, len0, cap0, rfl⟩ := okWide_slice ht hval
  obtain ⟨fuel, hf⟩ := h
  rcases open_ints ht he hc hf with ⟨hcs, _⟩ | ⟨x, l, c, zs, hcs, _, hl, hm, hz, _, hcell, hwz⟩
  · simp [Value.cells] at hcs
    obtain ⟨rfl, rfl, rfl⟩ := hcs
    exact ⟨none, [], 0, rfl, by simp, by simp, .inl rfl, fun z hz => by simp at hz⟩
  · simp [Value.cells] at hcs
    obtain ⟨rfl, rfl, rfl⟩ := hcs
    have hz' : zs.length = cap0 := by simpa using hz
    have hbl : (zs.take len0).length = len0 := by simp; omega
    refine ⟨some x, zs.take len0, cap0, by rw [hbl], by rw [hbl]; exact hl, hm, ?_, fun z hz => by have := bounds_i64 (hwz z (List.mem_of_mem_take hz)); omega⟩
    rcases Nat.eq_zero_or_pos len0 with h0 | h0
    · subst h0
      left
      simp [ivals]
    · right
      have c0 := hcell 0 (by omega)
      obtain ⟨b, off, spot⟩ := x
      have hsp : spot = none := by simpa [Addr.add] using World.cell?_spot c0
      subst hsp
      refine ⟨b, off, rfl, ?_, fun j u hu => ?_⟩
      · have := World.block_lt_of_cell? W _ c0
        simpa [Addr.add] using this
      · have hj : j < len0 := by
          have := (List.getElem?_eq_some_iff.1 hu).1
          rw [ivals_length, hbl] at this
          exact this
        have cj := hcell j (by omega)
        rw [Addr.add_lit] at cj
        rw [cj, ← hu, ivals_at _ _ (by rw [hbl]; exact hj)]
        have hj2 : j < zs.length := by omega
        simp [List.getD_eq_getElem?_getD, List.getElem?_eq_getElem hj2, hj]
end Go.Proofs.Ytpcmfbdlfjlobaa
