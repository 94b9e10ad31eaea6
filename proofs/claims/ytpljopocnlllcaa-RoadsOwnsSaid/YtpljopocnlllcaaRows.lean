/-
  No cell of these rows narrows 'for every input' (looked for: loops, veiled, ifaces, maps, wideKeys, modest, calm, conditions, laid).
  DERIVED. THE GIVEN ROWS OF THIS SEAT. 4 by the template 'for every input the law returns true; each argument reads behind the call as it read before'; 0 by the template 'total and deterministic' (their statements: YtpljopocnlllcaaTotals.lean).
  GIVEN WITH THE SEED: the statements are not yours to turn. If you find one false, say at which input.
  Laid BY PROGRAM, IN A SANDBOX (cutbox-rows.mjs): the forced cells as the released guide's own fill.sh prints them over the translation 724a53275b2f9808… (all of the seat's roots in one cut). By AI agents, Wed Nov 11 2026. No macro, syntax, notation, axiom, sorry.
-/
import Derived.Test.YtpljopocnlllcaaChecked
import GoSem.Claim
import GoSem.ClaimJoined
import GoSem.ClaimMapViews
import Derived.JoinedTies
import Derived.KernelRfl
namespace Go.Proofs.Ytpljopocnlllcaa
/- THE CELL 'sum', in the pinned program and in every row, IS THE sha256 OF THE DUMP (.gsa) THAT YtpljopocnlllcaaProg.lean LOADS. Nothing in Lean hashes anything: it is a label: what it is worth is what the hold of that sum in a sandbox is worth. -/
noncomputable def Try.pinned : Pinned := { name := "ytpljopocnlllcaa", sum := "724a53275b2f9808bf8ff5289b1ec988ec61f044151ce8b89fb7823acecd4576", checked := Try.checked }
namespace Rows
def none {H : Type} : Left H := { results := [], args := [] }

/-- 'liverylaw22.RoadsPlays': WHATEVER THE INPUT: true; the input reads as it did. -/
def roadsPlaysSpec : ChangeSpec := { name := "roadsPlays", fn := fun _ => fun
  | [d1, d2] => { results := [.lit (.bool true)], args := [d1, d2] }
  | _ => none }
def roadsPlaysRow : OpenClaim := { program := "ytpljopocnlllcaa", sum := "724a53275b2f9808bf8ff5289b1ec988ec61f044151ce8b89fb7823acecd4576", func := "livery/liverylaw22.RoadsPlays", spec := "roadsPlays", apart := false }
def RoadsPlaysSaid : Prop := roadsPlaysRow.holds Try.pinned (OpenSpec.ofChange roadsPlaysSpec)

/-- ITS FALSE NEIGHBOUR: 'it returns false'. Refute it at one input. -/
def roadsPlaysWrong : ChangeSpec := { name := "roadsPlays", fn := fun _ => fun
  | [d1, d2] => { results := [.lit (.bool false)], args := [d1, d2] }
  | _ => none }
def RoadsPlaysWrongFalsely : Prop := roadsPlaysRow.holds Try.pinned (OpenSpec.ofChange roadsPlaysWrong)

/-- 'liverylaw22.RoadsClocks': WHATEVER THE INPUT: true; the input reads as it did. -/
def roadsClocksSpec : ChangeSpec := { name := "roadsClocks", fn := fun _ => fun
  | [d1, d2, d3] => { results := [.lit (.bool true)], args := [d1, d2, d3] }
  | _ => none }
def roadsClocksRow : OpenClaim := { program := "ytpljopocnlllcaa", sum := "724a53275b2f9808bf8ff5289b1ec988ec61f044151ce8b89fb7823acecd4576", func := "livery/liverylaw22.RoadsClocks", spec := "roadsClocks", apart := false }
def RoadsClocksSaid : Prop := roadsClocksRow.holds Try.pinned (OpenSpec.ofChange roadsClocksSpec)

/-- ITS FALSE NEIGHBOUR: 'it returns false'. Refute it at one input. -/
def roadsClocksWrong : ChangeSpec := { name := "roadsClocks", fn := fun _ => fun
  | [d1, d2, d3] => { results := [.lit (.bool false)], args := [d1, d2, d3] }
  | _ => none }
def RoadsClocksWrongFalsely : Prop := roadsClocksRow.holds Try.pinned (OpenSpec.ofChange roadsClocksWrong)

/-- 'liverylaw22.RoadsOrder': WHATEVER THE INPUT: true; the input reads as it did. -/
def roadsOrderSpec : ChangeSpec := { name := "roadsOrder", fn := fun _ => fun
  | [d1, d2] => { results := [.lit (.bool true)], args := [d1, d2] }
  | _ => none }
def roadsOrderRow : OpenClaim := { program := "ytpljopocnlllcaa", sum := "724a53275b2f9808bf8ff5289b1ec988ec61f044151ce8b89fb7823acecd4576", func := "livery/liverylaw22.RoadsOrder", spec := "roadsOrder", apart := false }
def RoadsOrderSaid : Prop := roadsOrderRow.holds Try.pinned (OpenSpec.ofChange roadsOrderSpec)

/-- ITS FALSE NEIGHBOUR: 'it returns false'. Refute it at one input. -/
def roadsOrderWrong : ChangeSpec := { name := "roadsOrder", fn := fun _ => fun
  | [d1, d2] => { results := [.lit (.bool false)], args := [d1, d2] }
  | _ => none }
def RoadsOrderWrongFalsely : Prop := roadsOrderRow.holds Try.pinned (OpenSpec.ofChange roadsOrderWrong)

/-- 'liverylaw22.RoadsOwns': WHATEVER THE INPUT: true; the input reads as it did. -/
def roadsOwnsSpec : ChangeSpec := { name := "roadsOwns", fn := fun _ => fun
  | [d] => { results := [.lit (.bool true)], args := [d] }
  | _ => none }
def roadsOwnsRow : OpenClaim := { program := "ytpljopocnlllcaa", sum := "724a53275b2f9808bf8ff5289b1ec988ec61f044151ce8b89fb7823acecd4576", func := "livery/liverylaw22.RoadsOwns", spec := "roadsOwns", apart := false }
def RoadsOwnsSaid : Prop := roadsOwnsRow.holds Try.pinned (OpenSpec.ofChange roadsOwnsSpec)

/-- ITS FALSE NEIGHBOUR: 'it returns false'. Refute it at one input. -/
def roadsOwnsWrong : ChangeSpec := { name := "roadsOwns", fn := fun _ => fun
  | [d] => { results := [.lit (.bool false)], args := [d] }
  | _ => none }
def RoadsOwnsWrongFalsely : Prop := roadsOwnsRow.holds Try.pinned (OpenSpec.ofChange roadsOwnsWrong)

/- THE SECOND FORM. 'bulk': how many values and letters a reading holds, each counted each time it is reached (what is shared counts as often as it is met; a slice's spare places count too). A statement '..UptoSaid' is the law's where the arguments, and the package variables that the reading takes, are together of bulk at most 1048576: NARROWER than '..Said'. Prove '..Said' where nothing that the law and all that it calls make is longer than what came in: it says more and counts as full. Else prove '..UptoSaid'. A law counts once. -/
mutual
def uptoBulk {H : Type} : DataW H → Nat
  | .lit (.string bytes) => bytes.length + 1
  | .lit _ => 1
  | .nil => 1
  | .ptr d => uptoBulk d + 1
  | .slice elems spare => uptoBulkAll elems + uptoBulkAll spare + 1
  | .agg parts => uptoBulkAll parts + 1
  | .iface _ d => uptoBulk d + 1
  | .map entries => uptoBulkEntries entries + 1
  | .held _ => 1
def uptoBulkAll {H : Type} : List (DataW H) → Nat
  | [] => 0
  | d :: r => uptoBulk d + uptoBulkAll r
def uptoBulkEntries {H : Type} : List (Lit × DataW H) → Nat
  | [] => 0
  | x :: r => uptoBulkEntry x + uptoBulkEntries r
def uptoBulkEntry {H : Type} : Lit × DataW H → Nat
  | (.string bytes, d) => bytes.length + uptoBulk d + 1
  | (_, d) => uptoBulk d + 1
 end
def uptoSmall : (H : Type) → List (DataW H) → Bool := fun _ ds => decide (uptoBulkAll ds ≤ 1048576)
def OpenSpec.upto (s : _root_.Go.ChangeSpec) : _root_.Go.OpenSpec := { _root_.Go.OpenSpec.ofChange s with cond := some uptoSmall }

/-- 'liverylaw22.RoadsPlays', WHERE WHAT IT READS IS OF BULK AT MOST 1048576: true; the input reads as it did. -/
def roadsPlaysUptoRow : OpenClaim := { program := "ytpljopocnlllcaa", sum := "724a53275b2f9808bf8ff5289b1ec988ec61f044151ce8b89fb7823acecd4576", func := "livery/liverylaw22.RoadsPlays", spec := "roadsPlays", apart := false, narrowed := true }
def RoadsPlaysUptoSaid : Prop := roadsPlaysUptoRow.holds Try.pinned (OpenSpec.upto roadsPlaysSpec)

/-- 'liverylaw22.RoadsClocks', WHERE WHAT IT READS IS OF BULK AT MOST 1048576: true; the input reads as it did. -/
def roadsClocksUptoRow : OpenClaim := { program := "ytpljopocnlllcaa", sum := "724a53275b2f9808bf8ff5289b1ec988ec61f044151ce8b89fb7823acecd4576", func := "livery/liverylaw22.RoadsClocks", spec := "roadsClocks", apart := false, narrowed := true }
def RoadsClocksUptoSaid : Prop := roadsClocksUptoRow.holds Try.pinned (OpenSpec.upto roadsClocksSpec)

/-- 'liverylaw22.RoadsOrder', WHERE WHAT IT READS IS OF BULK AT MOST 1048576: true; the input reads as it did. -/
def roadsOrderUptoRow : OpenClaim := { program := "ytpljopocnlllcaa", sum := "724a53275b2f9808bf8ff5289b1ec988ec61f044151ce8b89fb7823acecd4576", func := "livery/liverylaw22.RoadsOrder", spec := "roadsOrder", apart := false, narrowed := true }
def RoadsOrderUptoSaid : Prop := roadsOrderUptoRow.holds Try.pinned (OpenSpec.upto roadsOrderSpec)

/-- 'liverylaw22.RoadsOwns', WHERE WHAT IT READS IS OF BULK AT MOST 1048576: true; the input reads as it did. -/
def roadsOwnsUptoRow : OpenClaim := { program := "ytpljopocnlllcaa", sum := "724a53275b2f9808bf8ff5289b1ec988ec61f044151ce8b89fb7823acecd4576", func := "livery/liverylaw22.RoadsOwns", spec := "roadsOwns", apart := false, narrowed := true }
def RoadsOwnsUptoSaid : Prop := roadsOwnsUptoRow.holds Try.pinned (OpenSpec.upto roadsOwnsSpec)

end Rows
end Go.Proofs.Ytpljopocnlllcaa
