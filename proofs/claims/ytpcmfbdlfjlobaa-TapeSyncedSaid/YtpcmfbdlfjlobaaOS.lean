/- A slice of structs that comes in, each field one cell. -/
import Derived.Test.YtpcmfbdlfjlobaaProg
import Derived.Deep.Slices
import Derived.Deep.Fields
import Derived.ChangeSame
import Derived.OpenShut
import Derived.KernelRfl
namespace Go.Proofs.Ytpcmfbdlfjlobaa
open Go.ChangeShapes Go.WideShapes Go.RowKit
theorem open_structs {H : Type} {enc : TypeId × Value → H} {P : Program} {W : World} {base : Nat} {spare : Nat → Bool} {held : Bool} {t e : TypeId} {fs : Array Field} {fuel : Nat} {cs : List Value} {x : DataW H × List MemPlace}
    (ht : P.underlying t = some (.slice e)) (he : P.underlying e = some (.struct fs)) (hone : Deep.oneCellFields P fs = true) (hC : P.cellsOf e = fs.size) (h : DataW.trod enc P W base spare held fuel t cs = some x) :
    cs = [.slice none 0 0] ∨ ∃ (a : Addr) (len cap : Nat), cs = [.slice (some a) len cap] ∧ len ≤ cap ∧ cap ≤ maxLen ∧
      ∀ i, i < len → ∀ (j : Nat) (f : Field), fs[j]? = some f → ∃ (v : Value) (y : DataW H × List MemPlace) (n : Nat), W.cell? (a.add (i * fs.size + j)) = some v ∧ DataW.trod enc P W base spare held n f.type [v] = some y := by
  rcases Deep.open_slice ht h with h0 | ⟨a, len, cap, m, n, D, Pl, hcs, _, hl, hm, hmm, _, hi⟩
  · exact .inl h0.1
  · refine .inr ⟨a, len, cap, hcs, hl, hm, fun i hil j f hj => ?_⟩
    have him : i < m := by rw [hmm]; split <;> omega
    obtain ⟨cells, hc, htr⟩ := hi i him
    rw [hC] at hc
    obtain ⟨_, hcl, hat⟩ := World.cells?_some hc
    obtain ⟨ys, n2, _, _, _, hyl, hfy⟩ := DataW.trod_struct he htr
    obtain ⟨ho, hk⟩ := Deep.hone_of hone j f hj
    have hjl : j < fs.size := (Array.getElem?_eq_some_iff.1 hj).1
    have h1 := hfy j f hj
    rw [ho, hk, List.drop_eq_getElem_cons (by omega), List.getElem?_eq_getElem (by omega)] at h1
    refine ⟨cells[j]'(by omega), ys[j]'(by omega), n2, ?_, h1⟩
    have h2 := hat j hjl
    rw [Deep.add_add] at h2
    rw [h2, List.getElem?_eq_getElem (by omega)]
theorem int_cell {H : Type} {enc : TypeId × Value → H} {P : Program} {W : World} {base : Nat} {spare : Nat → Bool} {held : Bool} {t : TypeId} {k : IntKind} {fuel : Nat} {v : Value} {x : DataW H × List MemPlace}
    (ht : P.underlying t = some (.int k)) (h : DataW.trod enc P W base spare held fuel t [v] = some x) : ∃ z : Int, v = .int k z ∧ (Lit.int k z).wf = true := by
  obtain ⟨z, hz, _, hw⟩ := DataW.trod_int ht h
  exact ⟨z, by injection hz, hw⟩
theorem bool_cell {H : Type} {enc : TypeId × Value → H} {P : Program} {W : World} {base : Nat} {spare : Nat → Bool} {held : Bool} {t : TypeId} {fuel : Nat} {v : Value} {x : DataW H × List MemPlace}
    (ht : P.underlying t = some .bool) (h : DataW.trod enc P W base spare held fuel t [v] = some x) : ∃ b : Bool, v = .bool b := by
  obtain ⟨z, hz, _⟩ := DataW.trod_bool ht h
  exact ⟨z, by injection hz⟩
end Go.Proofs.Ytpcmfbdlfjlobaa
