/-
  NARROWER THAN 'FOR EVERY INPUT', by the rows' own cells (each row's printed sentence says how): ShaSums: laid · ShaLong: laid · ShaHex: laid · ShaHexApart: laid · ShaStays: laid · MacTags: laid · MacRight: laid · MacTurned: laid · MacParts: laid · MacStays: laid · MacKeys: laid.
  DERIVED. THE GIVEN ROWS OF THIS SEAT. 11 by the template 'for every input the law returns true; each argument reads behind the call as it read before'; 0 by the template 'total and deterministic' (their statements: YtleeacgimikdbaaDoorTotals.lean).
  GIVEN WITH THE SEED: the statements are not yours to turn. If you find one false, say at which input.
  Laid BY PROGRAM, IN A SANDBOX (cutbox-rows.mjs): the forced cells as the released guide's own fill.sh prints them over the translation 9f7331d8fb51c4c0… (all of the seat's roots in one cut). By AI agents, Wed Nov 11 2026. No macro, syntax, notation, axiom, sorry.
-/
import Derived.Test.YtleeacgimikdbaaDoorChecked
import GoSem.Claim
import GoSem.ClaimJoined
import GoSem.ClaimMapViews
import Derived.JoinedTies
import Derived.KernelRfl
namespace Go.Proofs.YtleeacgimikdbaaDoor
/- THE CELL 'sum', in the pinned program and in every row, IS THE sha256 OF THE DUMP (.gsa) THAT YtleeacgimikdbaaDoorProg.lean LOADS. Nothing in Lean hashes anything: it is a label: what it is worth is what the hold of that sum in a sandbox is worth. -/
noncomputable def Tryd.pinned : Pinned := { name := "ytleeacgimikdbaadoor", sum := "9f7331d8fb51c4c013d20c86e1a5dfb15d05b9554dc0f80b3ce622f088aa0a10", checked := Tryd.checked }
namespace Rows
def none {H : Type} : Left H := { results := [], args := [] }

/- WHAT THE LISTED PACKAGE-LEVEL VARIABLES READ AS WHEN THE CALL BEGINS. Each datum BY PROGRAM (the guide's laid-datum.mjs) off the statement by which the dump's own 'gosem.cut.vars' lays the variable. In a bare row this is a premise. The card (YtleeacgimikdbaaDoorCards.lean) ties it to the program's text. -/
def laid_livery_sha_k {H : Type} : DataW H := .agg [.lit (.int .u32 1116352408), .lit (.int .u32 1899447441), .lit (.int .u32 3049323471), .lit (.int .u32 3921009573), .lit (.int .u32 961987163), .lit (.int .u32 1508970993), .lit (.int .u32 2453635748), .lit (.int .u32 2870763221), .lit (.int .u32 3624381080), .lit (.int .u32 310598401), .lit (.int .u32 607225278), .lit (.int .u32 1426881987), .lit (.int .u32 1925078388), .lit (.int .u32 2162078206), .lit (.int .u32 2614888103), .lit (.int .u32 3248222580), .lit (.int .u32 3835390401), .lit (.int .u32 4022224774), .lit (.int .u32 264347078), .lit (.int .u32 604807628), .lit (.int .u32 770255983), .lit (.int .u32 1249150122), .lit (.int .u32 1555081692), .lit (.int .u32 1996064986), .lit (.int .u32 2554220882), .lit (.int .u32 2821834349), .lit (.int .u32 2952996808), .lit (.int .u32 3210313671), .lit (.int .u32 3336571891), .lit (.int .u32 3584528711), .lit (.int .u32 113926993), .lit (.int .u32 338241895), .lit (.int .u32 666307205), .lit (.int .u32 773529912), .lit (.int .u32 1294757372), .lit (.int .u32 1396182291), .lit (.int .u32 1695183700), .lit (.int .u32 1986661051), .lit (.int .u32 2177026350), .lit (.int .u32 2456956037), .lit (.int .u32 2730485921), .lit (.int .u32 2820302411), .lit (.int .u32 3259730800), .lit (.int .u32 3345764771), .lit (.int .u32 3516065817), .lit (.int .u32 3600352804), .lit (.int .u32 4094571909), .lit (.int .u32 275423344), .lit (.int .u32 430227734), .lit (.int .u32 506948616), .lit (.int .u32 659060556), .lit (.int .u32 883997877), .lit (.int .u32 958139571), .lit (.int .u32 1322822218), .lit (.int .u32 1537002063), .lit (.int .u32 1747873779), .lit (.int .u32 1955562222), .lit (.int .u32 2024104815), .lit (.int .u32 2227730452), .lit (.int .u32 2361852424), .lit (.int .u32 2428436474), .lit (.int .u32 2756734187), .lit (.int .u32 3204031479), .lit (.int .u32 3329325298)]

/-- 'liverylaw01.ShaSums': WHATEVER THE INPUT: true; the input reads as it did. -/
def shaSumsSpec : ChangeSpec := { name := "shaSums", fn := fun _ => fun
  | [d] => { results := [.lit (.bool true)], args := [d] }
  | _ => none }
def shaSumsRow : OpenClaim := { program := "ytleeacgimikdbaadoor", sum := "9f7331d8fb51c4c013d20c86e1a5dfb15d05b9554dc0f80b3ce622f088aa0a10", func := "livery/liverylaw01.ShaSums", spec := "shaSums", named := ["livery/sha.k"], apart := false, laid := [("livery/sha.k", laid_livery_sha_k)] }
def ShaSumsSaid : Prop := shaSumsRow.holds Tryd.pinned (OpenSpec.ofChange shaSumsSpec)

/-- ITS FALSE NEIGHBOUR: 'it returns false'. Refute it at one input. -/
def shaSumsWrong : ChangeSpec := { name := "shaSums", fn := fun _ => fun
  | [d] => { results := [.lit (.bool false)], args := [d] }
  | _ => none }
def ShaSumsWrongFalsely : Prop := shaSumsRow.holds Tryd.pinned (OpenSpec.ofChange shaSumsWrong)

/-- 'liverylaw01.ShaLong': WHATEVER THE INPUT: true; the input reads as it did. -/
def shaLongSpec : ChangeSpec := { name := "shaLong", fn := fun _ => fun
  | [d1, d2] => { results := [.lit (.bool true)], args := [d1, d2] }
  | _ => none }
def shaLongRow : OpenClaim := { program := "ytleeacgimikdbaadoor", sum := "9f7331d8fb51c4c013d20c86e1a5dfb15d05b9554dc0f80b3ce622f088aa0a10", func := "livery/liverylaw01.ShaLong", spec := "shaLong", named := ["livery/sha.k"], apart := false, laid := [("livery/sha.k", laid_livery_sha_k)] }
def ShaLongSaid : Prop := shaLongRow.holds Tryd.pinned (OpenSpec.ofChange shaLongSpec)

/-- ITS FALSE NEIGHBOUR: 'it returns false'. Refute it at one input. -/
def shaLongWrong : ChangeSpec := { name := "shaLong", fn := fun _ => fun
  | [d1, d2] => { results := [.lit (.bool false)], args := [d1, d2] }
  | _ => none }
def ShaLongWrongFalsely : Prop := shaLongRow.holds Tryd.pinned (OpenSpec.ofChange shaLongWrong)

/-- 'liverylaw01.ShaHex': WHATEVER THE INPUT: true; the input reads as it did. -/
def shaHexSpec : ChangeSpec := { name := "shaHex", fn := fun _ => fun
  | [d] => { results := [.lit (.bool true)], args := [d] }
  | _ => none }
def shaHexRow : OpenClaim := { program := "ytleeacgimikdbaadoor", sum := "9f7331d8fb51c4c013d20c86e1a5dfb15d05b9554dc0f80b3ce622f088aa0a10", func := "livery/liverylaw01.ShaHex", spec := "shaHex", named := ["livery/sha.k"], apart := false, laid := [("livery/sha.k", laid_livery_sha_k)] }
def ShaHexSaid : Prop := shaHexRow.holds Tryd.pinned (OpenSpec.ofChange shaHexSpec)

/-- ITS FALSE NEIGHBOUR: 'it returns false'. Refute it at one input. -/
def shaHexWrong : ChangeSpec := { name := "shaHex", fn := fun _ => fun
  | [d] => { results := [.lit (.bool false)], args := [d] }
  | _ => none }
def ShaHexWrongFalsely : Prop := shaHexRow.holds Tryd.pinned (OpenSpec.ofChange shaHexWrong)

/-- 'liverylaw01.ShaHexApart': WHATEVER THE INPUT: true; the input reads as it did. -/
def shaHexApartSpec : ChangeSpec := { name := "shaHexApart", fn := fun _ => fun
  | [d1, d2] => { results := [.lit (.bool true)], args := [d1, d2] }
  | _ => none }
def shaHexApartRow : OpenClaim := { program := "ytleeacgimikdbaadoor", sum := "9f7331d8fb51c4c013d20c86e1a5dfb15d05b9554dc0f80b3ce622f088aa0a10", func := "livery/liverylaw01.ShaHexApart", spec := "shaHexApart", named := ["livery/sha.k"], apart := false, laid := [("livery/sha.k", laid_livery_sha_k)] }
def ShaHexApartSaid : Prop := shaHexApartRow.holds Tryd.pinned (OpenSpec.ofChange shaHexApartSpec)

/-- ITS FALSE NEIGHBOUR: 'it returns false'. Refute it at one input. -/
def shaHexApartWrong : ChangeSpec := { name := "shaHexApart", fn := fun _ => fun
  | [d1, d2] => { results := [.lit (.bool false)], args := [d1, d2] }
  | _ => none }
def ShaHexApartWrongFalsely : Prop := shaHexApartRow.holds Tryd.pinned (OpenSpec.ofChange shaHexApartWrong)

/-- 'liverylaw01.ShaStays': WHATEVER THE INPUT: true; the input reads as it did. -/
def shaStaysSpec : ChangeSpec := { name := "shaStays", fn := fun _ => fun
  | [d] => { results := [.lit (.bool true)], args := [d] }
  | _ => none }
def shaStaysRow : OpenClaim := { program := "ytleeacgimikdbaadoor", sum := "9f7331d8fb51c4c013d20c86e1a5dfb15d05b9554dc0f80b3ce622f088aa0a10", func := "livery/liverylaw01.ShaStays", spec := "shaStays", named := ["livery/sha.k"], apart := false, laid := [("livery/sha.k", laid_livery_sha_k)] }
def ShaStaysSaid : Prop := shaStaysRow.holds Tryd.pinned (OpenSpec.ofChange shaStaysSpec)

/-- ITS FALSE NEIGHBOUR: 'it returns false'. Refute it at one input. -/
def shaStaysWrong : ChangeSpec := { name := "shaStays", fn := fun _ => fun
  | [d] => { results := [.lit (.bool false)], args := [d] }
  | _ => none }
def ShaStaysWrongFalsely : Prop := shaStaysRow.holds Tryd.pinned (OpenSpec.ofChange shaStaysWrong)

/-- 'liverylaw02.MacTags': WHATEVER THE INPUT: true; the input reads as it did. -/
def macTagsSpec : ChangeSpec := { name := "macTags", fn := fun _ => fun
  | [d1, d2] => { results := [.lit (.bool true)], args := [d1, d2] }
  | _ => none }
def macTagsRow : OpenClaim := { program := "ytleeacgimikdbaadoor", sum := "9f7331d8fb51c4c013d20c86e1a5dfb15d05b9554dc0f80b3ce622f088aa0a10", func := "livery/liverylaw02.MacTags", spec := "macTags", unfollowed := true, recurses := true, named := ["livery/sha.k"], apart := false, laid := [("livery/sha.k", laid_livery_sha_k)] }
def MacTagsSaid : Prop := macTagsRow.holds Tryd.pinned (OpenSpec.ofChange macTagsSpec)

/-- ITS FALSE NEIGHBOUR: 'it returns false'. Refute it at one input. -/
def macTagsWrong : ChangeSpec := { name := "macTags", fn := fun _ => fun
  | [d1, d2] => { results := [.lit (.bool false)], args := [d1, d2] }
  | _ => none }
def MacTagsWrongFalsely : Prop := macTagsRow.holds Tryd.pinned (OpenSpec.ofChange macTagsWrong)

/-- 'liverylaw02.MacRight': WHATEVER THE INPUT: true; the input reads as it did. -/
def macRightSpec : ChangeSpec := { name := "macRight", fn := fun _ => fun
  | [d1, d2, d3] => { results := [.lit (.bool true)], args := [d1, d2, d3] }
  | _ => none }
def macRightRow : OpenClaim := { program := "ytleeacgimikdbaadoor", sum := "9f7331d8fb51c4c013d20c86e1a5dfb15d05b9554dc0f80b3ce622f088aa0a10", func := "livery/liverylaw02.MacRight", spec := "macRight", unfollowed := true, recurses := true, named := ["livery/sha.k"], apart := false, laid := [("livery/sha.k", laid_livery_sha_k)] }
def MacRightSaid : Prop := macRightRow.holds Tryd.pinned (OpenSpec.ofChange macRightSpec)

/-- ITS FALSE NEIGHBOUR: 'it returns false'. Refute it at one input. -/
def macRightWrong : ChangeSpec := { name := "macRight", fn := fun _ => fun
  | [d1, d2, d3] => { results := [.lit (.bool false)], args := [d1, d2, d3] }
  | _ => none }
def MacRightWrongFalsely : Prop := macRightRow.holds Tryd.pinned (OpenSpec.ofChange macRightWrong)

/-- 'liverylaw02.MacTurned': WHATEVER THE INPUT: true; the input reads as it did. -/
def macTurnedSpec : ChangeSpec := { name := "macTurned", fn := fun _ => fun
  | [d1, d2, d3, d4, d5] => { results := [.lit (.bool true)], args := [d1, d2, d3, d4, d5] }
  | _ => none }
def macTurnedRow : OpenClaim := { program := "ytleeacgimikdbaadoor", sum := "9f7331d8fb51c4c013d20c86e1a5dfb15d05b9554dc0f80b3ce622f088aa0a10", func := "livery/liverylaw02.MacTurned", spec := "macTurned", unfollowed := true, recurses := true, named := ["livery/sha.k"], apart := false, laid := [("livery/sha.k", laid_livery_sha_k)] }
def MacTurnedSaid : Prop := macTurnedRow.holds Tryd.pinned (OpenSpec.ofChange macTurnedSpec)

/-- ITS FALSE NEIGHBOUR: 'it returns false'. Refute it at one input. -/
def macTurnedWrong : ChangeSpec := { name := "macTurned", fn := fun _ => fun
  | [d1, d2, d3, d4, d5] => { results := [.lit (.bool false)], args := [d1, d2, d3, d4, d5] }
  | _ => none }
def MacTurnedWrongFalsely : Prop := macTurnedRow.holds Tryd.pinned (OpenSpec.ofChange macTurnedWrong)

/-- 'liverylaw02.MacParts': WHATEVER THE INPUT: true; the input reads as it did. -/
def macPartsSpec : ChangeSpec := { name := "macParts", fn := fun _ => fun
  | [d1, d2, d3] => { results := [.lit (.bool true)], args := [d1, d2, d3] }
  | _ => none }
def macPartsRow : OpenClaim := { program := "ytleeacgimikdbaadoor", sum := "9f7331d8fb51c4c013d20c86e1a5dfb15d05b9554dc0f80b3ce622f088aa0a10", func := "livery/liverylaw02.MacParts", spec := "macParts", unfollowed := true, recurses := true, named := ["livery/sha.k"], apart := false, laid := [("livery/sha.k", laid_livery_sha_k)] }
def MacPartsSaid : Prop := macPartsRow.holds Tryd.pinned (OpenSpec.ofChange macPartsSpec)

/-- ITS FALSE NEIGHBOUR: 'it returns false'. Refute it at one input. -/
def macPartsWrong : ChangeSpec := { name := "macParts", fn := fun _ => fun
  | [d1, d2, d3] => { results := [.lit (.bool false)], args := [d1, d2, d3] }
  | _ => none }
def MacPartsWrongFalsely : Prop := macPartsRow.holds Tryd.pinned (OpenSpec.ofChange macPartsWrong)

/-- 'liverylaw02.MacStays': WHATEVER THE INPUT: true; the input reads as it did. -/
def macStaysSpec : ChangeSpec := { name := "macStays", fn := fun _ => fun
  | [d1, d2] => { results := [.lit (.bool true)], args := [d1, d2] }
  | _ => none }
def macStaysRow : OpenClaim := { program := "ytleeacgimikdbaadoor", sum := "9f7331d8fb51c4c013d20c86e1a5dfb15d05b9554dc0f80b3ce622f088aa0a10", func := "livery/liverylaw02.MacStays", spec := "macStays", unfollowed := true, recurses := true, named := ["livery/sha.k"], apart := false, laid := [("livery/sha.k", laid_livery_sha_k)] }
def MacStaysSaid : Prop := macStaysRow.holds Tryd.pinned (OpenSpec.ofChange macStaysSpec)

/-- ITS FALSE NEIGHBOUR: 'it returns false'. Refute it at one input. -/
def macStaysWrong : ChangeSpec := { name := "macStays", fn := fun _ => fun
  | [d1, d2] => { results := [.lit (.bool false)], args := [d1, d2] }
  | _ => none }
def MacStaysWrongFalsely : Prop := macStaysRow.holds Tryd.pinned (OpenSpec.ofChange macStaysWrong)

/-- 'liverylaw02.MacKeys': WHATEVER THE INPUT: true; the input reads as it did. -/
def macKeysSpec : ChangeSpec := { name := "macKeys", fn := fun _ => fun
  | [d1, d2, d3] => { results := [.lit (.bool true)], args := [d1, d2, d3] }
  | _ => none }
def macKeysRow : OpenClaim := { program := "ytleeacgimikdbaadoor", sum := "9f7331d8fb51c4c013d20c86e1a5dfb15d05b9554dc0f80b3ce622f088aa0a10", func := "livery/liverylaw02.MacKeys", spec := "macKeys", unfollowed := true, recurses := true, named := ["livery/sha.k"], apart := false, laid := [("livery/sha.k", laid_livery_sha_k)] }
def MacKeysSaid : Prop := macKeysRow.holds Tryd.pinned (OpenSpec.ofChange macKeysSpec)

/-- ITS FALSE NEIGHBOUR: 'it returns false'. Refute it at one input. -/
def macKeysWrong : ChangeSpec := { name := "macKeys", fn := fun _ => fun
  | [d1, d2, d3] => { results := [.lit (.bool false)], args := [d1, d2, d3] }
  | _ => none }
def MacKeysWrongFalsely : Prop := macKeysRow.holds Tryd.pinned (OpenSpec.ofChange macKeysWrong)

/- THE SECOND FORM. 'bulk': how many values and letters a reading holds, each counted each time it is reached (what is shared counts as often as it is met; a slice's spare places count too). A statement '..UptoSaid' is the law's where the arguments, and the package variables that the reading takes, are together of bulk at most 1048576: NARROWER than '..Said'. Prove '..Said' where nothing that the law and all that it calls make is longer than what came in: it says more and counts as full. Else prove '..UptoSaid'. A law counts once. -/
mutual
def uptoBulk {H : Type} : DataW H → Nat
  | .lit (.string bytes) => bytes.length + 1
  | .lit _ => 1
  | .nil => 1
  | .ptr d => uptoBulk d + 1
  | .slice elems spare => uptoBulkAll elems + uptoBulkAll spare + 1
  | .agg parts => uptoBulkAll parts + 1
  | .iface _ d => uptoBulk d + 1
  | .map entries => uptoBulkEntries entries + 1
  | .held _ => 1
def uptoBulkAll {H : Type} : List (DataW H) → Nat
  | [] => 0
  | d :: r => uptoBulk d + uptoBulkAll r
def uptoBulkEntries {H : Type} : List (Lit × DataW H) → Nat
  | [] => 0
  | x :: r => uptoBulkEntry x + uptoBulkEntries r
def uptoBulkEntry {H : Type} : Lit × DataW H → Nat
  | (.string bytes, d) => bytes.length + uptoBulk d + 1
  | (_, d) => uptoBulk d + 1
 end
def uptoSmall : (H : Type) → List (DataW H) → Bool := fun _ ds => decide (uptoBulkAll ds ≤ 1048576)
def OpenSpec.upto (s : _root_.Go.ChangeSpec) : _root_.Go.OpenSpec := { _root_.Go.OpenSpec.ofChange s with cond := some uptoSmall }

/-- 'liverylaw01.ShaSums', WHERE WHAT IT READS IS OF BULK AT MOST 1048576: true; the input reads as it did. -/
def shaSumsUptoRow : OpenClaim := { program := "ytleeacgimikdbaadoor", sum := "9f7331d8fb51c4c013d20c86e1a5dfb15d05b9554dc0f80b3ce622f088aa0a10", func := "livery/liverylaw01.ShaSums", spec := "shaSums", named := ["livery/sha.k"], apart := false, laid := [("livery/sha.k", laid_livery_sha_k)], narrowed := true }
def ShaSumsUptoSaid : Prop := shaSumsUptoRow.holds Tryd.pinned (OpenSpec.upto shaSumsSpec)

/-- 'liverylaw01.ShaLong', WHERE WHAT IT READS IS OF BULK AT MOST 1048576: true; the input reads as it did. -/
def shaLongUptoRow : OpenClaim := { program := "ytleeacgimikdbaadoor", sum := "9f7331d8fb51c4c013d20c86e1a5dfb15d05b9554dc0f80b3ce622f088aa0a10", func := "livery/liverylaw01.ShaLong", spec := "shaLong", named := ["livery/sha.k"], apart := false, laid := [("livery/sha.k", laid_livery_sha_k)], narrowed := true }
def ShaLongUptoSaid : Prop := shaLongUptoRow.holds Tryd.pinned (OpenSpec.upto shaLongSpec)

/-- 'liverylaw01.ShaHex', WHERE WHAT IT READS IS OF BULK AT MOST 1048576: true; the input reads as it did. -/
def shaHexUptoRow : OpenClaim := { program := "ytleeacgimikdbaadoor", sum := "9f7331d8fb51c4c013d20c86e1a5dfb15d05b9554dc0f80b3ce622f088aa0a10", func := "livery/liverylaw01.ShaHex", spec := "shaHex", named := ["livery/sha.k"], apart := false, laid := [("livery/sha.k", laid_livery_sha_k)], narrowed := true }
def ShaHexUptoSaid : Prop := shaHexUptoRow.holds Tryd.pinned (OpenSpec.upto shaHexSpec)

/-- 'liverylaw01.ShaHexApart', WHERE WHAT IT READS IS OF BULK AT MOST 1048576: true; the input reads as it did. -/
def shaHexApartUptoRow : OpenClaim := { program := "ytleeacgimikdbaadoor", sum := "9f7331d8fb51c4c013d20c86e1a5dfb15d05b9554dc0f80b3ce622f088aa0a10", func := "livery/liverylaw01.ShaHexApart", spec := "shaHexApart", named := ["livery/sha.k"], apart := false, laid := [("livery/sha.k", laid_livery_sha_k)], narrowed := true }
def ShaHexApartUptoSaid : Prop := shaHexApartUptoRow.holds Tryd.pinned (OpenSpec.upto shaHexApartSpec)

/-- 'liverylaw01.ShaStays', WHERE WHAT IT READS IS OF BULK AT MOST 1048576: true; the input reads as it did. -/
def shaStaysUptoRow : OpenClaim := { program := "ytleeacgimikdbaadoor", sum := "9f7331d8fb51c4c013d20c86e1a5dfb15d05b9554dc0f80b3ce622f088aa0a10", func := "livery/liverylaw01.ShaStays", spec := "shaStays", named := ["livery/sha.k"], apart := false, laid := [("livery/sha.k", laid_livery_sha_k)], narrowed := true }
def ShaStaysUptoSaid : Prop := shaStaysUptoRow.holds Tryd.pinned (OpenSpec.upto shaStaysSpec)

/-- 'liverylaw02.MacTags', WHERE WHAT IT READS IS OF BULK AT MOST 1048576: true; the input reads as it did. -/
def macTagsUptoRow : OpenClaim := { program := "ytleeacgimikdbaadoor", sum := "9f7331d8fb51c4c013d20c86e1a5dfb15d05b9554dc0f80b3ce622f088aa0a10", func := "livery/liverylaw02.MacTags", spec := "macTags", unfollowed := true, recurses := true, named := ["livery/sha.k"], apart := false, laid := [("livery/sha.k", laid_livery_sha_k)], narrowed := true }
def MacTagsUptoSaid : Prop := macTagsUptoRow.holds Tryd.pinned (OpenSpec.upto macTagsSpec)

/-- 'liverylaw02.MacRight', WHERE WHAT IT READS IS OF BULK AT MOST 1048576: true; the input reads as it did. -/
def macRightUptoRow : OpenClaim := { program := "ytleeacgimikdbaadoor", sum := "9f7331d8fb51c4c013d20c86e1a5dfb15d05b9554dc0f80b3ce622f088aa0a10", func := "livery/liverylaw02.MacRight", spec := "macRight", unfollowed := true, recurses := true, named := ["livery/sha.k"], apart := false, laid := [("livery/sha.k", laid_livery_sha_k)], narrowed := true }
def MacRightUptoSaid : Prop := macRightUptoRow.holds Tryd.pinned (OpenSpec.upto macRightSpec)

/-- 'liverylaw02.MacTurned', WHERE WHAT IT READS IS OF BULK AT MOST 1048576: true; the input reads as it did. -/
def macTurnedUptoRow : OpenClaim := { program := "ytleeacgimikdbaadoor", sum := "9f7331d8fb51c4c013d20c86e1a5dfb15d05b9554dc0f80b3ce622f088aa0a10", func := "livery/liverylaw02.MacTurned", spec := "macTurned", unfollowed := true, recurses := true, named := ["livery/sha.k"], apart := false, laid := [("livery/sha.k", laid_livery_sha_k)], narrowed := true }
def MacTurnedUptoSaid : Prop := macTurnedUptoRow.holds Tryd.pinned (OpenSpec.upto macTurnedSpec)

/-- 'liverylaw02.MacParts', WHERE WHAT IT READS IS OF BULK AT MOST 1048576: true; the input reads as it did. -/
def macPartsUptoRow : OpenClaim := { program := "ytleeacgimikdbaadoor", sum := "9f7331d8fb51c4c013d20c86e1a5dfb15d05b9554dc0f80b3ce622f088aa0a10", func := "livery/liverylaw02.MacParts", spec := "macParts", unfollowed := true, recurses := true, named := ["livery/sha.k"], apart := false, laid := [("livery/sha.k", laid_livery_sha_k)], narrowed := true }
def MacPartsUptoSaid : Prop := macPartsUptoRow.holds Tryd.pinned (OpenSpec.upto macPartsSpec)

/-- 'liverylaw02.MacStays', WHERE WHAT IT READS IS OF BULK AT MOST 1048576: true; the input reads as it did. -/
def macStaysUptoRow : OpenClaim := { program := "ytleeacgimikdbaadoor", sum := "9f7331d8fb51c4c013d20c86e1a5dfb15d05b9554dc0f80b3ce622f088aa0a10", func := "livery/liverylaw02.MacStays", spec := "macStays", unfollowed := true, recurses := true, named := ["livery/sha.k"], apart := false, laid := [("livery/sha.k", laid_livery_sha_k)], narrowed := true }
def MacStaysUptoSaid : Prop := macStaysUptoRow.holds Tryd.pinned (OpenSpec.upto macStaysSpec)

/-- 'liverylaw02.MacKeys', WHERE WHAT IT READS IS OF BULK AT MOST 1048576: true; the input reads as it did. -/
def macKeysUptoRow : OpenClaim := { program := "ytleeacgimikdbaadoor", sum := "9f7331d8fb51c4c013d20c86e1a5dfb15d05b9554dc0f80b3ce622f088aa0a10", func := "livery/liverylaw02.MacKeys", spec := "macKeys", unfollowed := true, recurses := true, named := ["livery/sha.k"], apart := false, laid := [("livery/sha.k", laid_livery_sha_k)], narrowed := true }
def MacKeysUptoSaid : Prop := macKeysUptoRow.holds Tryd.pinned (OpenSpec.upto macKeysSpec)

end Rows
end Go.Proofs.YtleeacgimikdbaaDoor
