/-
  No cell of these rows narrows 'for every input' (looked for: loops, veiled, ifaces, maps, wideKeys, modest, calm, conditions, laid).
  DERIVED. THE GIVEN ROWS OF THIS SEAT. 6 by the template 'for every input the law returns true; each argument reads behind the call as it read before'; 0 by the template 'total and deterministic' (their statements: YtiibkliaokkpdaaTotals.lean).
  GIVEN WITH THE SEED: the statements are not yours to turn. If you find one false, say at which input.
  Laid BY PROGRAM, IN A SANDBOX (cutbox-rows.mjs): the forced cells as the released guide's own fill.sh prints them over the translation a3232ccee6e1ad5b… (all of the seat's roots in one cut). By AI agents, Wed Nov 11 2026. No macro, syntax, notation, axiom, sorry.
-/
import Derived.Test.YtiibkliaokkpdaaChecked
import GoSem.Claim
import GoSem.ClaimJoined
import GoSem.ClaimMapViews
import Derived.JoinedTies
import Derived.KernelRfl
namespace Go.Proofs.Ytiibkliaokkpdaa
/- THE CELL 'sum', in the pinned program and in every row, IS THE sha256 OF THE DUMP (.gsa) THAT YtiibkliaokkpdaaProg.lean LOADS. Nothing in Lean hashes anything: it is a label: what it is worth is what the hold of that sum in a sandbox is worth. -/
noncomputable def Try.pinned : Pinned := { name := "ytiibkliaokkpdaa", sum := "a3232ccee6e1ad5b3754ed7ca3008217e2485b5219c2717a98b0645f3e430bac", checked := Try.checked }
namespace Rows
def none {H : Type} : Left H := { results := [], args := [] }

/-- 'liverylaw09.TicksAdds': WHATEVER THE INPUT: true; the input reads as it did. -/
def ticksAddsSpec : ChangeSpec := { name := "ticksAdds", fn := fun _ => fun
  | [d1, d2] => { results := [.lit (.bool true)], args := [d1, d2] }
  | _ => none }
def ticksAddsRow : OpenClaim := { program := "ytiibkliaokkpdaa", sum := "a3232ccee6e1ad5b3754ed7ca3008217e2485b5219c2717a98b0645f3e430bac", func := "livery/liverylaw09.TicksAdds", spec := "ticksAdds", apart := false }
def TicksAddsSaid : Prop := ticksAddsRow.holds Try.pinned (OpenSpec.ofChange ticksAddsSpec)

/-- ITS FALSE NEIGHBOUR: 'it returns false'. Refute it at one input. -/
def ticksAddsWrong : ChangeSpec := { name := "ticksAdds", fn := fun _ => fun
  | [d1, d2] => { results := [.lit (.bool false)], args := [d1, d2] }
  | _ => none }
def TicksAddsWrongFalsely : Prop := ticksAddsRow.holds Try.pinned (OpenSpec.ofChange ticksAddsWrong)

/-- 'liverylaw09.TicksGoes': WHATEVER THE INPUT: true; the input reads as it did. -/
def ticksGoesSpec : ChangeSpec := { name := "ticksGoes", fn := fun _ => fun
  | [d1, d2] => { results := [.lit (.bool true)], args := [d1, d2] }
  | _ => none }
def ticksGoesRow : OpenClaim := { program := "ytiibkliaokkpdaa", sum := "a3232ccee6e1ad5b3754ed7ca3008217e2485b5219c2717a98b0645f3e430bac", func := "livery/liverylaw09.TicksGoes", spec := "ticksGoes", apart := false }
def TicksGoesSaid : Prop := ticksGoesRow.holds Try.pinned (OpenSpec.ofChange ticksGoesSpec)

/-- ITS FALSE NEIGHBOUR: 'it returns false'. Refute it at one input. -/
def ticksGoesWrong : ChangeSpec := { name := "ticksGoes", fn := fun _ => fun
  | [d1, d2] => { results := [.lit (.bool false)], args := [d1, d2] }
  | _ => none }
def TicksGoesWrongFalsely : Prop := ticksGoesRow.holds Try.pinned (OpenSpec.ofChange ticksGoesWrong)

/-- 'liverylaw09.TicksBound': WHATEVER THE INPUT: true; the input reads as it did. -/
def ticksBoundSpec : ChangeSpec := { name := "ticksBound", fn := fun _ => fun
  | [d1, d2] => { results := [.lit (.bool true)], args := [d1, d2] }
  | _ => none }
def ticksBoundRow : OpenClaim := { program := "ytiibkliaokkpdaa", sum := "a3232ccee6e1ad5b3754ed7ca3008217e2485b5219c2717a98b0645f3e430bac", func := "livery/liverylaw09.TicksBound", spec := "ticksBound", apart := false }
def TicksBoundSaid : Prop := ticksBoundRow.holds Try.pinned (OpenSpec.ofChange ticksBoundSpec)

/-- ITS FALSE NEIGHBOUR: 'it returns false'. Refute it at one input. -/
def ticksBoundWrong : ChangeSpec := { name := "ticksBound", fn := fun _ => fun
  | [d1, d2] => { results := [.lit (.bool false)], args := [d1, d2] }
  | _ => none }
def TicksBoundWrongFalsely : Prop := ticksBoundRow.holds Try.pinned (OpenSpec.ofChange ticksBoundWrong)

/-- 'liverylaw09.TicksStays': WHATEVER THE INPUT: true; the input reads as it did. -/
def ticksStaysSpec : ChangeSpec := { name := "ticksStays", fn := fun _ => fun
  | [d1, d2, d3] => { results := [.lit (.bool true)], args := [d1, d2, d3] }
  | _ => none }
def ticksStaysRow : OpenClaim := { program := "ytiibkliaokkpdaa", sum := "a3232ccee6e1ad5b3754ed7ca3008217e2485b5219c2717a98b0645f3e430bac", func := "livery/liverylaw09.TicksStays", spec := "ticksStays", apart := false }
def TicksStaysSaid : Prop := ticksStaysRow.holds Try.pinned (OpenSpec.ofChange ticksStaysSpec)

/-- ITS FALSE NEIGHBOUR: 'it returns false'. Refute it at one input. -/
def ticksStaysWrong : ChangeSpec := { name := "ticksStays", fn := fun _ => fun
  | [d1, d2, d3] => { results := [.lit (.bool false)], args := [d1, d2, d3] }
  | _ => none }
def TicksStaysWrongFalsely : Prop := ticksStaysRow.holds Try.pinned (OpenSpec.ofChange ticksStaysWrong)

/-- 'liverylaw09.TicksEnd': WHATEVER THE INPUT: true; the input reads as it did. -/
def ticksEndSpec : ChangeSpec := { name := "ticksEnd", fn := fun _ => fun
  | [d1, d2] => { results := [.lit (.bool true)], args := [d1, d2] }
  | _ => none }
def ticksEndRow : OpenClaim := { program := "ytiibkliaokkpdaa", sum := "a3232ccee6e1ad5b3754ed7ca3008217e2485b5219c2717a98b0645f3e430bac", func := "livery/liverylaw09.TicksEnd", spec := "ticksEnd", apart := false }
def TicksEndSaid : Prop := ticksEndRow.holds Try.pinned (OpenSpec.ofChange ticksEndSpec)

/-- ITS FALSE NEIGHBOUR: 'it returns false'. Refute it at one input. -/
def ticksEndWrong : ChangeSpec := { name := "ticksEnd", fn := fun _ => fun
  | [d1, d2] => { results := [.lit (.bool false)], args := [d1, d2] }
  | _ => none }
def TicksEndWrongFalsely : Prop := ticksEndRow.holds Try.pinned (OpenSpec.ofChange ticksEndWrong)

/-- 'liverylaw09.TicksLeast': WHATEVER THE INPUT: true; the input reads as it did. -/
def ticksLeastSpec : ChangeSpec := { name := "ticksLeast", fn := fun _ => fun
  | [d] => { results := [.lit (.bool true)], args := [d] }
  | _ => none }
def ticksLeastRow : OpenClaim := { program := "ytiibkliaokkpdaa", sum := "a3232ccee6e1ad5b3754ed7ca3008217e2485b5219c2717a98b0645f3e430bac", func := "livery/liverylaw09.TicksLeast", spec := "ticksLeast", apart := false }
def TicksLeastSaid : Prop := ticksLeastRow.holds Try.pinned (OpenSpec.ofChange ticksLeastSpec)

/-- ITS FALSE NEIGHBOUR: 'it returns false'. Refute it at one input. -/
def ticksLeastWrong : ChangeSpec := { name := "ticksLeast", fn := fun _ => fun
  | [d] => { results := [.lit (.bool false)], args := [d] }
  | _ => none }
def TicksLeastWrongFalsely : Prop := ticksLeastRow.holds Try.pinned (OpenSpec.ofChange ticksLeastWrong)

/- THE SECOND FORM. 'bulk': how many values and letters a reading holds, each counted each time it is reached (what is shared counts as often as it is met; a slice's spare places count too). A statement '..UptoSaid' is the law's where the arguments, and the package variables that the reading takes, are together of bulk at most 1048576: NARROWER than '..Said'. Prove '..Said' where nothing that the law and all that it calls make is longer than what came in: it says more and counts as full. Else prove '..UptoSaid'. A law counts once. -/
mutual
def uptoBulk {H : Type} : DataW H → Nat
  | .lit (.string bytes) => bytes.length + 1
  | .lit _ => 1
  | .nil => 1
  | .ptr d => uptoBulk d + 1
  | .slice elems spare => uptoBulkAll elems + uptoBulkAll spare + 1
  | .agg parts => uptoBulkAll parts + 1
  | .iface _ d => uptoBulk d + 1
  | .map entries => uptoBulkEntries entries + 1
  | .held _ => 1
def uptoBulkAll {H : Type} : List (DataW H) → Nat
  | [] => 0
  | d :: r => uptoBulk d + uptoBulkAll r
def uptoBulkEntries {H : Type} : List (Lit × DataW H) → Nat
  | [] => 0
  | x :: r => uptoBulkEntry x + uptoBulkEntries r
def uptoBulkEntry {H : Type} : Lit × DataW H → Nat
  | (.string bytes, d) => bytes.length + uptoBulk d + 1
  | (_, d) => uptoBulk d + 1
 end
def uptoSmall : (H : Type) → List (DataW H) → Bool := fun _ ds => decide (uptoBulkAll ds ≤ 1048576)
def OpenSpec.upto (s : _root_.Go.ChangeSpec) : _root_.Go.OpenSpec := { _root_.Go.OpenSpec.ofChange s with cond := some uptoSmall }

/-- 'liverylaw09.TicksAdds', WHERE WHAT IT READS IS OF BULK AT MOST 1048576: true; the input reads as it did. -/
def ticksAddsUptoRow : OpenClaim := { program := "ytiibkliaokkpdaa", sum := "a3232ccee6e1ad5b3754ed7ca3008217e2485b5219c2717a98b0645f3e430bac", func := "livery/liverylaw09.TicksAdds", spec := "ticksAdds", apart := false, narrowed := true }
def TicksAddsUptoSaid : Prop := ticksAddsUptoRow.holds Try.pinned (OpenSpec.upto ticksAddsSpec)

/-- 'liverylaw09.TicksGoes', WHERE WHAT IT READS IS OF BULK AT MOST 1048576: true; the input reads as it did. -/
def ticksGoesUptoRow : OpenClaim := { program := "ytiibkliaokkpdaa", sum := "a3232ccee6e1ad5b3754ed7ca3008217e2485b5219c2717a98b0645f3e430bac", func := "livery/liverylaw09.TicksGoes", spec := "ticksGoes", apart := false, narrowed := true }
def TicksGoesUptoSaid : Prop := ticksGoesUptoRow.holds Try.pinned (OpenSpec.upto ticksGoesSpec)

/-- 'liverylaw09.TicksBound', WHERE WHAT IT READS IS OF BULK AT MOST 1048576: true; the input reads as it did. -/
def ticksBoundUptoRow : OpenClaim := { program := "ytiibkliaokkpdaa", sum := "a3232ccee6e1ad5b3754ed7ca3008217e2485b5219c2717a98b0645f3e430bac", func := "livery/liverylaw09.TicksBound", spec := "ticksBound", apart := false, narrowed := true }
def TicksBoundUptoSaid : Prop := ticksBoundUptoRow.holds Try.pinned (OpenSpec.upto ticksBoundSpec)

/-- 'liverylaw09.TicksStays', WHERE WHAT IT READS IS OF BULK AT MOST 1048576: true; the input reads as it did. -/
def ticksStaysUptoRow : OpenClaim := { program := "ytiibkliaokkpdaa", sum := "a3232ccee6e1ad5b3754ed7ca3008217e2485b5219c2717a98b0645f3e430bac", func := "livery/liverylaw09.TicksStays", spec := "ticksStays", apart := false, narrowed := true }
def TicksStaysUptoSaid : Prop := ticksStaysUptoRow.holds Try.pinned (OpenSpec.upto ticksStaysSpec)

/-- 'liverylaw09.TicksEnd', WHERE WHAT IT READS IS OF BULK AT MOST 1048576: true; the input reads as it did. -/
def ticksEndUptoRow : OpenClaim := { program := "ytiibkliaokkpdaa", sum := "a3232ccee6e1ad5b3754ed7ca3008217e2485b5219c2717a98b0645f3e430bac", func := "livery/liverylaw09.TicksEnd", spec := "ticksEnd", apart := false, narrowed := true }
def TicksEndUptoSaid : Prop := ticksEndUptoRow.holds Try.pinned (OpenSpec.upto ticksEndSpec)

/-- 'liverylaw09.TicksLeast', WHERE WHAT IT READS IS OF BULK AT MOST 1048576: true; the input reads as it did. -/
def ticksLeastUptoRow : OpenClaim := { program := "ytiibkliaokkpdaa", sum := "a3232ccee6e1ad5b3754ed7ca3008217e2485b5219c2717a98b0645f3e430bac", func := "livery/liverylaw09.TicksLeast", spec := "ticksLeast", apart := false, narrowed := true }
def TicksLeastUptoSaid : Prop := ticksLeastUptoRow.holds Try.pinned (OpenSpec.upto ticksLeastSpec)

end Rows
end Go.Proofs.Ytiibkliaokkpdaa
