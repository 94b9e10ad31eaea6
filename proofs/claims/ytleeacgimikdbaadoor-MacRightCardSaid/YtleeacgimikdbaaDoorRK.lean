/- What the rows share: byte slices that come in; the table of the digest's words. -/
import Derived.Test.YtleeacgimikdbaaDoorCards
import Derived.Test.YtleeacgimikdbaaDoorTie
import Derived.Test.YtleeacgimikdbaaDoorK3
import Derived.ProofKit
import Derived.OpenShut
import Derived.ChangeOld
import Derived.Below
import Derived.Carry
import Derived.Deep.Slices
import Derived.Deep.DeepHandedRow
import Derived.Lib.LaidTab
namespace Go.Proofs.YtleeacgimikdbaaDoor
open Go.ChangeShapes Go.WideShapes Go.ChangeAt Go.RowKit
theorem u8_of {z : Int} (h : (Lit.int .u8 z).wf = true) : z = ((UInt8.ofNat z.toNat).toNat : Int) := by
  have := bounds_u8 h
  rw [UInt8.toNat_ofNat_of_lt' (by show z.toNat < 256; omega)]
  omega
/-- A byte slice that comes in. -/
theorem open_bs {H : Type} {enc : TypeId × Value → H} {P : Program} {W : World} {base : Nat} {t e : TypeId} {v : Value} {d : DataW H} {p : List MemPlace}
    (ht : P.underlying t = some (.slice e)) (he : P.underlying e = some (.int .u8)) (hc : P.cellsOf e = 1)
    (hval : Value.okWide P W .any base t v) (h : DataW.Trod enc P W 0 (fun _ => true) true t v d p) :
    ∃ A bs c, v = .slice A (List.length bs) c ∧ bs.length ≤ c ∧ c ≤ maxLen ∧ Rd W A (bvals bs) := by
  obtain ⟨a0, len0, cap0, rfl⟩ := okWide_slice ht hval
  obtain ⟨fuel, hf⟩ := h
  rcases open_ints ht he hc hf with ⟨hcs, _⟩ | ⟨x, l, c, zs, hcs, _, hl, hm, hz, _, hcell, hwz⟩
  · simp [Value.cells] at hcs
    obtain ⟨rfl, rfl, rfl⟩ := hcs
    exact ⟨none, [], 0, rfl, by simp, by simp, Rd.nil _ _⟩
  · simp [Value.cells] at hcs
    obtain ⟨rfl, rfl, rfl⟩ := hcs
    have hz' : zs.length = cap0 := by simpa using hz
    have hbl : ((zs.take len0).map fun z => UInt8.ofNat z.toNat).length = len0 := by simp; omega
    refine ⟨some x, (zs.take len0).map fun z => UInt8.ofNat z.toNat, cap0, by rw [hbl], by rw [hbl]; exact hl, hm, ?_⟩
    rcases Nat.eq_zero_or_pos len0 with h0 | h0
    · subst h0
      left
      simp [bvals]
    · right
      have c0 := hcell 0 (by omega)
      obtain ⟨b, off, spot⟩ := x
      have hsp : spot = none := by simpa [Addr.add] using World.cell?_spot c0
      subst hsp
      refine ⟨b, off, rfl, ?_, fun j u hu => ?_⟩
      · have := World.block_lt_of_cell? W _ c0
        simpa [Addr.add] using this
      · obtain ⟨hj, rfl⟩ := bvals_some hu
        rw [hbl] at hj
        have cj := hcell j (by omega)
        rw [Addr.add_lit] at cj
        rw [cj]
        have hmem : zs.getD j 0 ∈ zs := by
          rw [List.getD_eq_getElem?_getD, List.getElem?_eq_getElem (by omega)]
          exact List.getElem_mem _
        have e1 := u8_of (hwz _ hmem)
        unfold bval
        congr 2
        rw [e1]
        congr 2
        have hj2 : j < zs.length := by omega
        simp [List.getD_eq_getElem?_getD, List.getElem?_eq_getElem hj2, hj]
end Go.Proofs.YtleeacgimikdbaaDoor
