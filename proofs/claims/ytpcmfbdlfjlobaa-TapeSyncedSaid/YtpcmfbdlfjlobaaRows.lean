/-
  No cell of these rows narrows 'for every input' (looked for: loops, veiled, ifaces, maps, wideKeys, modest, calm, conditions, laid).
  DERIVED. THE GIVEN ROWS OF THIS SEAT. 6 by the template 'for every input the law returns true; each argument reads behind the call as it read before'; 0 by the template 'total and deterministic' (their statements: YtpcmfbdlfjlobaaTotals.lean).
  GIVEN WITH THE SEED: the statements are not yours to turn. If you find one false, say at which input.
  Laid BY PROGRAM, IN A SANDBOX (cutbox-rows.mjs): the forced cells as the released guide's own fill.sh prints them over the translation a1f96a36d9251edc… (all of the seat's roots in one cut). By AI agents, Wed Nov 11 2026. No macro, syntax, notation, axiom, sorry.
-/
import Derived.Test.YtpcmfbdlfjlobaaChecked
import GoSem.Claim
import GoSem.ClaimJoined
import GoSem.ClaimMapViews
import Derived.JoinedTies
import Derived.KernelRfl
namespace Go.Proofs.Ytpcmfbdlfjlobaa
/- THE CELL 'sum', in the pinned program and in every row, IS THE sha256 OF THE DUMP (.gsa) THAT YtpcmfbdlfjlobaaProg.lean LOADS. Nothing in Lean hashes anything: it is a label: what it is worth is what the hold of that sum in a sandbox is worth. -/
noncomputable def Try.pinned : Pinned := { name := "ytpcmfbdlfjlobaa", sum := "a1f96a36d9251edccb36ebf58c2b99973c682a12f0cbc16e12b5df74e64affa5", checked := Try.checked }
namespace Rows
def none {H : Type} : Left H := { results := [], args := [] }

/-- 'liverylaw16.TapePlays': WHATEVER THE INPUT: true; the input reads as it did. -/
def tapePlaysSpec : ChangeSpec := { name := "tapePlays", fn := fun _ => fun
  | [d] => { results := [.lit (.bool true)], args := [d] }
  | _ => none }
def tapePlaysRow : OpenClaim := { program := "ytpcmfbdlfjlobaa", sum := "a1f96a36d9251edccb36ebf58c2b99973c682a12f0cbc16e12b5df74e64affa5", func := "livery/liverylaw16.TapePlays", spec := "tapePlays", apart := false }
def TapePlaysSaid : Prop := tapePlaysRow.holds Try.pinned (OpenSpec.ofChange tapePlaysSpec)

/-- ITS FALSE NEIGHBOUR: 'it returns false'. Refute it at one input. -/
def tapePlaysWrong : ChangeSpec := { name := "tapePlays", fn := fun _ => fun
  | [d] => { results := [.lit (.bool false)], args := [d] }
  | _ => none }
def TapePlaysWrongFalsely : Prop := tapePlaysRow.holds Try.pinned (OpenSpec.ofChange tapePlaysWrong)

/-- 'liverylaw16.TapeRoom': WHATEVER THE INPUT: true; the input reads as it did. -/
def tapeRoomSpec : ChangeSpec := { name := "tapeRoom", fn := fun _ => fun
  | [d] => { results := [.lit (.bool true)], args := [d] }
  | _ => none }
def tapeRoomRow : OpenClaim := { program := "ytpcmfbdlfjlobaa", sum := "a1f96a36d9251edccb36ebf58c2b99973c682a12f0cbc16e12b5df74e64affa5", func := "livery/liverylaw16.TapeRoom", spec := "tapeRoom", apart := false }
def TapeRoomSaid : Prop := tapeRoomRow.holds Try.pinned (OpenSpec.ofChange tapeRoomSpec)

/-- ITS FALSE NEIGHBOUR: 'it returns false'. Refute it at one input. -/
def tapeRoomWrong : ChangeSpec := { name := "tapeRoom", fn := fun _ => fun
  | [d] => { results := [.lit (.bool false)], args := [d] }
  | _ => none }
def TapeRoomWrongFalsely : Prop := tapeRoomRow.holds Try.pinned (OpenSpec.ofChange tapeRoomWrong)

/-- 'liverylaw16.TapeSynced': WHATEVER THE INPUT: true; the input reads as it did. -/
def tapeSyncedSpec : ChangeSpec := { name := "tapeSynced", fn := fun _ => fun
  | [d1, d2, d3] => { results := [.lit (.bool true)], args := [d1, d2, d3] }
  | _ => none }
def tapeSyncedRow : OpenClaim := { program := "ytpcmfbdlfjlobaa", sum := "a1f96a36d9251edccb36ebf58c2b99973c682a12f0cbc16e12b5df74e64affa5", func := "livery/liverylaw16.TapeSynced", spec := "tapeSynced", apart := false }
def TapeSyncedSaid : Prop := tapeSyncedRow.holds Try.pinned (OpenSpec.ofChange tapeSyncedSpec)

/-- ITS FALSE NEIGHBOUR: 'it returns false'. Refute it at one input. -/
def tapeSyncedWrong : ChangeSpec := { name := "tapeSynced", fn := fun _ => fun
  | [d1, d2, d3] => { results := [.lit (.bool false)], args := [d1, d2, d3] }
  | _ => none }
def TapeSyncedWrongFalsely : Prop := tapeSyncedRow.holds Try.pinned (OpenSpec.ofChange tapeSyncedWrong)

/-- 'liverylaw16.TapeAll': WHATEVER THE INPUT: true; the input reads as it did. -/
def tapeAllSpec : ChangeSpec := { name := "tapeAll", fn := fun _ => fun
  | [d] => { results := [.lit (.bool true)], args := [d] }
  | _ => none }
def tapeAllRow : OpenClaim := { program := "ytpcmfbdlfjlobaa", sum := "a1f96a36d9251edccb36ebf58c2b99973c682a12f0cbc16e12b5df74e64affa5", func := "livery/liverylaw16.TapeAll", spec := "tapeAll", apart := false }
def TapeAllSaid : Prop := tapeAllRow.holds Try.pinned (OpenSpec.ofChange tapeAllSpec)

/-- ITS FALSE NEIGHBOUR: 'it returns false'. Refute it at one input. -/
def tapeAllWrong : ChangeSpec := { name := "tapeAll", fn := fun _ => fun
  | [d] => { results := [.lit (.bool false)], args := [d] }
  | _ => none }
def TapeAllWrongFalsely : Prop := tapeAllRow.holds Try.pinned (OpenSpec.ofChange tapeAllWrong)

/-- 'liverylaw16.TapeDown': WHATEVER THE INPUT: true; the input reads as it did. -/
def tapeDownSpec : ChangeSpec := { name := "tapeDown", fn := fun _ => fun
  | [d1, d2] => { results := [.lit (.bool true)], args := [d1, d2] }
  | _ => none }
def tapeDownRow : OpenClaim := { program := "ytpcmfbdlfjlobaa", sum := "a1f96a36d9251edccb36ebf58c2b99973c682a12f0cbc16e12b5df74e64affa5", func := "livery/liverylaw16.TapeDown", spec := "tapeDown", apart := false }
def TapeDownSaid : Prop := tapeDownRow.holds Try.pinned (OpenSpec.ofChange tapeDownSpec)

/-- ITS FALSE NEIGHBOUR: 'it returns false'. Refute it at one input. -/
def tapeDownWrong : ChangeSpec := { name := "tapeDown", fn := fun _ => fun
  | [d1, d2] => { results := [.lit (.bool false)], args := [d1, d2] }
  | _ => none }
def TapeDownWrongFalsely : Prop := tapeDownRow.holds Try.pinned (OpenSpec.ofChange tapeDownWrong)

/-- 'liverylaw16.TapeOwns': WHATEVER THE INPUT: true; the input reads as it did. -/
def tapeOwnsSpec : ChangeSpec := { name := "tapeOwns", fn := fun _ => fun
  | [d] => { results := [.lit (.bool true)], args := [d] }
  | _ => none }
def tapeOwnsRow : OpenClaim := { program := "ytpcmfbdlfjlobaa", sum := "a1f96a36d9251edccb36ebf58c2b99973c682a12f0cbc16e12b5df74e64affa5", func := "livery/liverylaw16.TapeOwns", spec := "tapeOwns", apart := false }
def TapeOwnsSaid : Prop := tapeOwnsRow.holds Try.pinned (OpenSpec.ofChange tapeOwnsSpec)

/-- ITS FALSE NEIGHBOUR: 'it returns false'. Refute it at one input. -/
def tapeOwnsWrong : ChangeSpec := { name := "tapeOwns", fn := fun _ => fun
  | [d] => { results := [.lit (.bool false)], args := [d] }
  | _ => none }
def TapeOwnsWrongFalsely : Prop := tapeOwnsRow.holds Try.pinned (OpenSpec.ofChange tapeOwnsWrong)

/- THE SECOND FORM. 'bulk': how many values and letters a reading holds, each counted each time it is reached (what is shared counts as often as it is met; a slice's spare places count too). A statement '..UptoSaid' is the law's where the arguments, and the package variables that the reading takes, are together of bulk at most 1048576: NARROWER than '..Said'. Prove '..Said' where nothing that the law and all that it calls make is longer than what came in: it says more and counts as full. Else prove '..UptoSaid'. A law counts once. -/
mutual
def uptoBulk {H : Type} : DataW H → Nat
  | .lit (.string bytes) => bytes.length + 1
  | .lit _ => 1
  | .nil => 1
  | .ptr d => uptoBulk d + 1
  | .slice elems spare => uptoBulkAll elems + uptoBulkAll spare + 1
  | .agg parts => uptoBulkAll parts + 1
  | .iface _ d => uptoBulk d + 1
  | .map entries => uptoBulkEntries entries + 1
  | .held _ => 1
def uptoBulkAll {H : Type} : List (DataW H) → Nat
  | [] => 0
  | d :: r => uptoBulk d + uptoBulkAll r
def uptoBulkEntries {H : Type} : List (Lit × DataW H) → Nat
  | [] => 0
  | x :: r => uptoBulkEntry x + uptoBulkEntries r
def uptoBulkEntry {H : Type} : Lit × DataW H → Nat
  | (.string bytes, d) => bytes.length + uptoBulk d + 1
  | (_, d) => uptoBulk d + 1
 end
def uptoSmall : (H : Type) → List (DataW H) → Bool := fun _ ds => decide (uptoBulkAll ds ≤ 1048576)
def OpenSpec.upto (s : _root_.Go.ChangeSpec) : _root_.Go.OpenSpec := { _root_.Go.OpenSpec.ofChange s with cond := some uptoSmall }

/-- 'liverylaw16.TapePlays', WHERE WHAT IT READS IS OF BULK AT MOST 1048576: true; the input reads as it did. -/
def tapePlaysUptoRow : OpenClaim := { program := "ytpcmfbdlfjlobaa", sum := "a1f96a36d9251edccb36ebf58c2b99973c682a12f0cbc16e12b5df74e64affa5", func := "livery/liverylaw16.TapePlays", spec := "tapePlays", apart := false, narrowed := true }
def TapePlaysUptoSaid : Prop := tapePlaysUptoRow.holds Try.pinned (OpenSpec.upto tapePlaysSpec)

/-- 'liverylaw16.TapeRoom', WHERE WHAT IT READS IS OF BULK AT MOST 1048576: true; the input reads as it did. -/
def tapeRoomUptoRow : OpenClaim := { program := "ytpcmfbdlfjlobaa", sum := "a1f96a36d9251edccb36ebf58c2b99973c682a12f0cbc16e12b5df74e64affa5", func := "livery/liverylaw16.TapeRoom", spec := "tapeRoom", apart := false, narrowed := true }
def TapeRoomUptoSaid : Prop := tapeRoomUptoRow.holds Try.pinned (OpenSpec.upto tapeRoomSpec)

/-- 'liverylaw16.TapeSynced', WHERE WHAT IT READS IS OF BULK AT MOST 1048576: true; the input reads as it did. -/
def tapeSyncedUptoRow : OpenClaim := { program := "ytpcmfbdlfjlobaa", sum := "a1f96a36d9251edccb36ebf58c2b99973c682a12f0cbc16e12b5df74e64affa5", func := "livery/liverylaw16.TapeSynced", spec := "tapeSynced", apart := false, narrowed := true }
def TapeSyncedUptoSaid : Prop := tapeSyncedUptoRow.holds Try.pinned (OpenSpec.upto tapeSyncedSpec)

/-- 'liverylaw16.TapeAll', WHERE WHAT IT READS IS OF BULK AT MOST 1048576: true; the input reads as it did. -/
def tapeAllUptoRow : OpenClaim := { program := "ytpcmfbdlfjlobaa", sum := "a1f96a36d9251edccb36ebf58c2b99973c682a12f0cbc16e12b5df74e64affa5", func := "livery/liverylaw16.TapeAll", spec := "tapeAll", apart := false, narrowed := true }
def TapeAllUptoSaid : Prop := tapeAllUptoRow.holds Try.pinned (OpenSpec.upto tapeAllSpec)

/-- 'liverylaw16.TapeDown', WHERE WHAT IT READS IS OF BULK AT MOST 1048576: true; the input reads as it did. -/
def tapeDownUptoRow : OpenClaim := { program := "ytpcmfbdlfjlobaa", sum := "a1f96a36d9251edccb36ebf58c2b99973c682a12f0cbc16e12b5df74e64affa5", func := "livery/liverylaw16.TapeDown", spec := "tapeDown", apart := false, narrowed := true }
def TapeDownUptoSaid : Prop := tapeDownUptoRow.holds Try.pinned (OpenSpec.upto tapeDownSpec)

/-- 'liverylaw16.TapeOwns', WHERE WHAT IT READS IS OF BULK AT MOST 1048576: true; the input reads as it did. -/
def tapeOwnsUptoRow : OpenClaim := { program := "ytpcmfbdlfjlobaa", sum := "a1f96a36d9251edccb36ebf58c2b99973c682a12f0cbc16e12b5df74e64affa5", func := "livery/liverylaw16.TapeOwns", spec := "tapeOwns", apart := false, narrowed := true }
def TapeOwnsUptoSaid : Prop := tapeOwnsUptoRow.holds Try.pinned (OpenSpec.upto tapeOwnsSpec)

end Rows
end Go.Proofs.Ytpcmfbdlfjlobaa
