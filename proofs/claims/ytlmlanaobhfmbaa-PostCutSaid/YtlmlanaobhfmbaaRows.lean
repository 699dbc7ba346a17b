/-
  No cell of these rows narrows 'for every input' (looked for: loops, veiled, ifaces, maps, wideKeys, modest, calm, conditions, laid).
  DERIVED. THE GIVEN ROWS OF THIS SEAT. 14 by the template 'for every input the law returns true; each argument reads behind the call as it read before'; 0 by the template 'total and deterministic' (their statements: YtlmlanaobhfmbaaTotals.lean).
  GIVEN WITH THE SEED: the statements are not yours to turn. If you find one false, say at which input.
  Laid BY PROGRAM, IN A SANDBOX (cutbox-rows.mjs): the forced cells as the released guide's own fill.sh prints them over the translation 13f6c051efd79c41… (all of the seat's roots in one cut). By AI agents, Wed Nov 11 2026. No macro, syntax, notation, axiom, sorry.
-/
import Derived.Test.YtlmlanaobhfmbaaChecked
import GoSem.Claim
import GoSem.ClaimJoined
import GoSem.ClaimMapViews
import Derived.JoinedTies
import Derived.KernelRfl
namespace Go.Proofs.Ytlmlanaobhfmbaa
/- THE CELL 'sum', in the pinned program and in every row, IS THE sha256 OF THE DUMP (.gsa) THAT YtlmlanaobhfmbaaProg.lean LOADS. Nothing in Lean hashes anything: it is a label: what it is worth is what the hold of that sum in a sandbox is worth. -/
noncomputable def Try.pinned : Pinned := { name := "ytlmlanaobhfmbaa", sum := "13f6c051efd79c411d5ddf8c6424f9b8fffcd6a99e0a23b6a8785674fe3ab98f", checked := Try.checked }
namespace Rows
def none {H : Type} : Left H := { results := [], args := [] }

/-- 'verbatimlaw09.PostTells': WHATEVER THE INPUT: true; the input reads as it did. -/
def postTellsSpec : ChangeSpec := { name := "postTells", fn := fun _ => fun
  | [d1, d2] => { results := [.lit (.bool true)], args := [d1, d2] }
  | _ => none }
def postTellsRow : OpenClaim := { program := "ytlmlanaobhfmbaa", sum := "13f6c051efd79c411d5ddf8c6424f9b8fffcd6a99e0a23b6a8785674fe3ab98f", func := "verbatim/verbatimlaw09.PostTells", spec := "postTells", unfollowed := true, recurses := true, apart := false }
def PostTellsSaid : Prop := postTellsRow.holds Try.pinned (OpenSpec.ofChange postTellsSpec)

/-- ITS FALSE NEIGHBOUR: 'it returns false'. Refute it at one input. -/
def postTellsWrong : ChangeSpec := { name := "postTells", fn := fun _ => fun
  | [d1, d2] => { results := [.lit (.bool false)], args := [d1, d2] }
  | _ => none }
def PostTellsWrongFalsely : Prop := postTellsRow.holds Try.pinned (OpenSpec.ofChange postTellsWrong)

/-- 'verbatimlaw09.PostBack': WHATEVER THE INPUT: true; the input reads as it did. -/
def postBackSpec : ChangeSpec := { name := "postBack", fn := fun _ => fun
  | [d1, d2] => { results := [.lit (.bool true)], args := [d1, d2] }
  | _ => none }
def postBackRow : OpenClaim := { program := "ytlmlanaobhfmbaa", sum := "13f6c051efd79c411d5ddf8c6424f9b8fffcd6a99e0a23b6a8785674fe3ab98f", func := "verbatim/verbatimlaw09.PostBack", spec := "postBack", unfollowed := true, recurses := true, apart := false }
def PostBackSaid : Prop := postBackRow.holds Try.pinned (OpenSpec.ofChange postBackSpec)

/-- ITS FALSE NEIGHBOUR: 'it returns false'. Refute it at one input. -/
def postBackWrong : ChangeSpec := { name := "postBack", fn := fun _ => fun
  | [d1, d2] => { results := [.lit (.bool false)], args := [d1, d2] }
  | _ => none }
def PostBackWrongFalsely : Prop := postBackRow.holds Try.pinned (OpenSpec.ofChange postBackWrong)

/-- 'verbatimlaw09.PostOrder': WHATEVER THE INPUT: true; the input reads as it did. -/
def postOrderSpec : ChangeSpec := { name := "postOrder", fn := fun _ => fun
  | [d1, d2] => { results := [.lit (.bool true)], args := [d1, d2] }
  | _ => none }
def postOrderRow : OpenClaim := { program := "ytlmlanaobhfmbaa", sum := "13f6c051efd79c411d5ddf8c6424f9b8fffcd6a99e0a23b6a8785674fe3ab98f", func := "verbatim/verbatimlaw09.PostOrder", spec := "postOrder", unfollowed := true, recurses := true, apart := false }
def PostOrderSaid : Prop := postOrderRow.holds Try.pinned (OpenSpec.ofChange postOrderSpec)

/-- ITS FALSE NEIGHBOUR: 'it returns false'. Refute it at one input. -/
def postOrderWrong : ChangeSpec := { name := "postOrder", fn := fun _ => fun
  | [d1, d2] => { results := [.lit (.bool false)], args := [d1, d2] }
  | _ => none }
def PostOrderWrongFalsely : Prop := postOrderRow.holds Try.pinned (OpenSpec.ofChange postOrderWrong)

/-- 'verbatimlaw09.PostCut': WHATEVER THE INPUT: true; the input reads as it did. -/
def postCutSpec : ChangeSpec := { name := "postCut", fn := fun _ => fun
  | [d1, d2, d3] => { results := [.lit (.bool true)], args := [d1, d2, d3] }
  | _ => none }
def postCutRow : OpenClaim := { program := "ytlmlanaobhfmbaa", sum := "13f6c051efd79c411d5ddf8c6424f9b8fffcd6a99e0a23b6a8785674fe3ab98f", func := "verbatim/verbatimlaw09.PostCut", spec := "postCut", unfollowed := true, recurses := true, apart := false }
def PostCutSaid : Prop := postCutRow.holds Try.pinned (OpenSpec.ofChange postCutSpec)

/-- ITS FALSE NEIGHBOUR: 'it returns false'. Refute it at one input. -/
def postCutWrong : ChangeSpec := { name := "postCut", fn := fun _ => fun
  | [d1, d2, d3] => { results := [.lit (.bool false)], args := [d1, d2, d3] }
  | _ => none }
def PostCutWrongFalsely : Prop := postCutRow.holds Try.pinned (OpenSpec.ofChange postCutWrong)

/-- 'verbatimlaw11.SetsGather': WHATEVER THE INPUT: true; the input reads as it did. -/
def setsGatherSpec : ChangeSpec := { name := "setsGather", fn := fun _ => fun
  | [d] => { results := [.lit (.bool true)], args := [d] }
  | _ => none }
def setsGatherRow : OpenClaim := { program := "ytlmlanaobhfmbaa", sum := "13f6c051efd79c411d5ddf8c6424f9b8fffcd6a99e0a23b6a8785674fe3ab98f", func := "verbatim/verbatimlaw11.SetsGather", spec := "setsGather", unfollowed := true, recurses := true, apart := false }
def SetsGatherSaid : Prop := setsGatherRow.holds Try.pinned (OpenSpec.ofChange setsGatherSpec)

/-- ITS FALSE NEIGHBOUR: 'it returns false'. Refute it at one input. -/
def setsGatherWrong : ChangeSpec := { name := "setsGather", fn := fun _ => fun
  | [d] => { results := [.lit (.bool false)], args := [d] }
  | _ => none }
def SetsGatherWrongFalsely : Prop := setsGatherRow.holds Try.pinned (OpenSpec.ofChange setsGatherWrong)

/-- 'verbatimlaw11.SetsWalks': WHATEVER THE INPUT: true; the input reads as it did. -/
def setsWalksSpec : ChangeSpec := { name := "setsWalks", fn := fun _ => fun
  | [d1, d2] => { results := [.lit (.bool true)], args := [d1, d2] }
  | _ => none }
def setsWalksRow : OpenClaim := { program := "ytlmlanaobhfmbaa", sum := "13f6c051efd79c411d5ddf8c6424f9b8fffcd6a99e0a23b6a8785674fe3ab98f", func := "verbatim/verbatimlaw11.SetsWalks", spec := "setsWalks", unfollowed := true, recurses := true, apart := false }
def SetsWalksSaid : Prop := setsWalksRow.holds Try.pinned (OpenSpec.ofChange setsWalksSpec)

/-- ITS FALSE NEIGHBOUR: 'it returns false'. Refute it at one input. -/
def setsWalksWrong : ChangeSpec := { name := "setsWalks", fn := fun _ => fun
  | [d1, d2] => { results := [.lit (.bool false)], args := [d1, d2] }
  | _ => none }
def SetsWalksWrongFalsely : Prop := setsWalksRow.holds Try.pinned (OpenSpec.ofChange setsWalksWrong)

/-- 'verbatimlaw11.SetsLaws': WHATEVER THE INPUT: true; the input reads as it did. -/
def setsLawsSpec : ChangeSpec := { name := "setsLaws", fn := fun _ => fun
  | [d1, d2, d3] => { results := [.lit (.bool true)], args := [d1, d2, d3] }
  | _ => none }
def setsLawsRow : OpenClaim := { program := "ytlmlanaobhfmbaa", sum := "13f6c051efd79c411d5ddf8c6424f9b8fffcd6a99e0a23b6a8785674fe3ab98f", func := "verbatim/verbatimlaw11.SetsLaws", spec := "setsLaws", unfollowed := true, recurses := true, apart := false }
def SetsLawsSaid : Prop := setsLawsRow.holds Try.pinned (OpenSpec.ofChange setsLawsSpec)

/-- ITS FALSE NEIGHBOUR: 'it returns false'. Refute it at one input. -/
def setsLawsWrong : ChangeSpec := { name := "setsLaws", fn := fun _ => fun
  | [d1, d2, d3] => { results := [.lit (.bool false)], args := [d1, d2, d3] }
  | _ => none }
def SetsLawsWrongFalsely : Prop := setsLawsRow.holds Try.pinned (OpenSpec.ofChange setsLawsWrong)

/-- 'verbatimlaw11.SetsMany': WHATEVER THE INPUT: true; the input reads as it did. -/
def setsManySpec : ChangeSpec := { name := "setsMany", fn := fun _ => fun
  | [d] => { results := [.lit (.bool true)], args := [d] }
  | _ => none }
def setsManyRow : OpenClaim := { program := "ytlmlanaobhfmbaa", sum := "13f6c051efd79c411d5ddf8c6424f9b8fffcd6a99e0a23b6a8785674fe3ab98f", func := "verbatim/verbatimlaw11.SetsMany", spec := "setsMany", unfollowed := true, recurses := true, apart := false }
def SetsManySaid : Prop := setsManyRow.holds Try.pinned (OpenSpec.ofChange setsManySpec)

/-- ITS FALSE NEIGHBOUR: 'it returns false'. Refute it at one input. -/
def setsManyWrong : ChangeSpec := { name := "setsMany", fn := fun _ => fun
  | [d] => { results := [.lit (.bool false)], args := [d] }
  | _ => none }
def SetsManyWrongFalsely : Prop := setsManyRow.holds Try.pinned (OpenSpec.ofChange setsManyWrong)

/-- 'verbatimlaw10.CursorBytes': WHATEVER THE INPUT: true; the input reads as it did. -/
def cursorBytesSpec : ChangeSpec := { name := "cursorBytes", fn := fun _ => fun
  | [d1, d2] => { results := [.lit (.bool true)], args := [d1, d2] }
  | _ => none }
def cursorBytesRow : OpenClaim := { program := "ytlmlanaobhfmbaa", sum := "13f6c051efd79c411d5ddf8c6424f9b8fffcd6a99e0a23b6a8785674fe3ab98f", func := "verbatim/verbatimlaw10.CursorBytes", spec := "cursorBytes", unfollowed := true, recurses := true, apart := false }
def CursorBytesSaid : Prop := cursorBytesRow.holds Try.pinned (OpenSpec.ofChange cursorBytesSpec)

/-- ITS FALSE NEIGHBOUR: 'it returns false'. Refute it at one input. -/
def cursorBytesWrong : ChangeSpec := { name := "cursorBytes", fn := fun _ => fun
  | [d1, d2] => { results := [.lit (.bool false)], args := [d1, d2] }
  | _ => none }
def CursorBytesWrongFalsely : Prop := cursorBytesRow.holds Try.pinned (OpenSpec.ofChange cursorBytesWrong)

/-- 'verbatimlaw10.CursorReads': WHATEVER THE INPUT: true; the input reads as it did. -/
def cursorReadsSpec : ChangeSpec := { name := "cursorReads", fn := fun _ => fun
  | [d1, d2] => { results := [.lit (.bool true)], args := [d1, d2] }
  | _ => none }
def cursorReadsRow : OpenClaim := { program := "ytlmlanaobhfmbaa", sum := "13f6c051efd79c411d5ddf8c6424f9b8fffcd6a99e0a23b6a8785674fe3ab98f", func := "verbatim/verbatimlaw10.CursorReads", spec := "cursorReads", unfollowed := true, recurses := true, apart := false }
def CursorReadsSaid : Prop := cursorReadsRow.holds Try.pinned (OpenSpec.ofChange cursorReadsSpec)

/-- ITS FALSE NEIGHBOUR: 'it returns false'. Refute it at one input. -/
def cursorReadsWrong : ChangeSpec := { name := "cursorReads", fn := fun _ => fun
  | [d1, d2] => { results := [.lit (.bool false)], args := [d1, d2] }
  | _ => none }
def CursorReadsWrongFalsely : Prop := cursorReadsRow.holds Try.pinned (OpenSpec.ofChange cursorReadsWrong)

/-- 'verbatimlaw10.CursorPlays': WHATEVER THE INPUT: true; the input reads as it did. -/
def cursorPlaysSpec : ChangeSpec := { name := "cursorPlays", fn := fun _ => fun
  | [d1, d2] => { results := [.lit (.bool true)], args := [d1, d2] }
  | _ => none }
def cursorPlaysRow : OpenClaim := { program := "ytlmlanaobhfmbaa", sum := "13f6c051efd79c411d5ddf8c6424f9b8fffcd6a99e0a23b6a8785674fe3ab98f", func := "verbatim/verbatimlaw10.CursorPlays", spec := "cursorPlays", unfollowed := true, recurses := true, apart := false }
def CursorPlaysSaid : Prop := cursorPlaysRow.holds Try.pinned (OpenSpec.ofChange cursorPlaysSpec)

/-- ITS FALSE NEIGHBOUR: 'it returns false'. Refute it at one input. -/
def cursorPlaysWrong : ChangeSpec := { name := "cursorPlays", fn := fun _ => fun
  | [d1, d2] => { results := [.lit (.bool false)], args := [d1, d2] }
  | _ => none }
def CursorPlaysWrongFalsely : Prop := cursorPlaysRow.holds Try.pinned (OpenSpec.ofChange cursorPlaysWrong)

/-- 'verbatimlaw10.CursorWalks': WHATEVER THE INPUT: true; the input reads as it did. -/
def cursorWalksSpec : ChangeSpec := { name := "cursorWalks", fn := fun _ => fun
  | [d1, d2] => { results := [.lit (.bool true)], args := [d1, d2] }
  | _ => none }
def cursorWalksRow : OpenClaim := { program := "ytlmlanaobhfmbaa", sum := "13f6c051efd79c411d5ddf8c6424f9b8fffcd6a99e0a23b6a8785674fe3ab98f", func := "verbatim/verbatimlaw10.CursorWalks", spec := "cursorWalks", unfollowed := true, recurses := true, apart := false }
def CursorWalksSaid : Prop := cursorWalksRow.holds Try.pinned (OpenSpec.ofChange cursorWalksSpec)

/-- ITS FALSE NEIGHBOUR: 'it returns false'. Refute it at one input. -/
def cursorWalksWrong : ChangeSpec := { name := "cursorWalks", fn := fun _ => fun
  | [d1, d2] => { results := [.lit (.bool false)], args := [d1, d2] }
  | _ => none }
def CursorWalksWrongFalsely : Prop := cursorWalksRow.holds Try.pinned (OpenSpec.ofChange cursorWalksWrong)

/-- 'verbatimlaw10.CursorSkips': WHATEVER THE INPUT: true; the input reads as it did. -/
def cursorSkipsSpec : ChangeSpec := { name := "cursorSkips", fn := fun _ => fun
  | [d1, d2, d3] => { results := [.lit (.bool true)], args := [d1, d2, d3] }
  | _ => none }
def cursorSkipsRow : OpenClaim := { program := "ytlmlanaobhfmbaa", sum := "13f6c051efd79c411d5ddf8c6424f9b8fffcd6a99e0a23b6a8785674fe3ab98f", func := "verbatim/verbatimlaw10.CursorSkips", spec := "cursorSkips", unfollowed := true, recurses := true, apart := false }
def CursorSkipsSaid : Prop := cursorSkipsRow.holds Try.pinned (OpenSpec.ofChange cursorSkipsSpec)

/-- ITS FALSE NEIGHBOUR: 'it returns false'. Refute it at one input. -/
def cursorSkipsWrong : ChangeSpec := { name := "cursorSkips", fn := fun _ => fun
  | [d1, d2, d3] => { results := [.lit (.bool false)], args := [d1, d2, d3] }
  | _ => none }
def CursorSkipsWrongFalsely : Prop := cursorSkipsRow.holds Try.pinned (OpenSpec.ofChange cursorSkipsWrong)

/-- 'verbatimlaw11.SetsOf': WHATEVER THE INPUT: true; the input reads as it did. -/
def setsOfSpec : ChangeSpec := { name := "setsOf", fn := fun _ => fun
  | [d1, d2, d3] => { results := [.lit (.bool true)], args := [d1, d2, d3] }
  | _ => none }
def setsOfRow : OpenClaim := { program := "ytlmlanaobhfmbaa", sum := "13f6c051efd79c411d5ddf8c6424f9b8fffcd6a99e0a23b6a8785674fe3ab98f", func := "verbatim/verbatimlaw11.SetsOf", spec := "setsOf", unfollowed := true, recurses := true, apart := false }
def SetsOfSaid : Prop := setsOfRow.holds Try.pinned (OpenSpec.ofChange setsOfSpec)

/-- ITS FALSE NEIGHBOUR: 'it returns false'. Refute it at one input. -/
def setsOfWrong : ChangeSpec := { name := "setsOf", fn := fun _ => fun
  | [d1, d2, d3] => { results := [.lit (.bool false)], args := [d1, d2, d3] }
  | _ => none }
def SetsOfWrongFalsely : Prop := setsOfRow.holds Try.pinned (OpenSpec.ofChange setsOfWrong)

/- THE SECOND FORM. 'bulk': how many values and letters a reading holds, each counted each time it is reached (what is shared counts as often as it is met; a slice's spare places count too). A statement '..UptoSaid' is the law's where the arguments, and the package variables that the reading takes, are together of bulk at most 1048576: NARROWER than '..Said'. Prove '..Said' where nothing that the law and all that it calls make is longer than what came in: it says more and counts as full. Else prove '..UptoSaid'. A law counts once. -/
mutual
def uptoBulk {H : Type} : DataW H → Nat
  | .lit (.string bytes) => bytes.length + 1
  | .lit _ => 1
  | .nil => 1
  | .ptr d => uptoBulk d + 1
  | .slice elems spare => uptoBulkAll elems + uptoBulkAll spare + 1
  | .agg parts => uptoBulkAll parts + 1
  | .iface _ d => uptoBulk d + 1
  | .map entries => uptoBulkEntries entries + 1
  | .held _ => 1
def uptoBulkAll {H : Type} : List (DataW H) → Nat
  | [] => 0
  | d :: r => uptoBulk d + uptoBulkAll r
def uptoBulkEntries {H : Type} : List (Lit × DataW H) → Nat
  | [] => 0
  | x :: r => uptoBulkEntry x + uptoBulkEntries r
def uptoBulkEntry {H : Type} : Lit × DataW H → Nat
  | (.string bytes, d) => bytes.length + uptoBulk d + 1
  | (_, d) => uptoBulk d + 1
 end
def uptoSmall : (H : Type) → List (DataW H) → Bool := fun _ ds => decide (uptoBulkAll ds ≤ 1048576)
def OpenSpec.upto (s : _root_.Go.ChangeSpec) : _root_.Go.OpenSpec := { _root_.Go.OpenSpec.ofChange s with cond := some uptoSmall }

/-- 'verbatimlaw09.PostTells', WHERE WHAT IT READS IS OF BULK AT MOST 1048576: true; the input reads as it did. -/
def postTellsUptoRow : OpenClaim := { program := "ytlmlanaobhfmbaa", sum := "13f6c051efd79c411d5ddf8c6424f9b8fffcd6a99e0a23b6a8785674fe3ab98f", func := "verbatim/verbatimlaw09.PostTells", spec := "postTells", unfollowed := true, recurses := true, apart := false, narrowed := true }
def PostTellsUptoSaid : Prop := postTellsUptoRow.holds Try.pinned (OpenSpec.upto postTellsSpec)

/-- 'verbatimlaw09.PostBack', WHERE WHAT IT READS IS OF BULK AT MOST 1048576: true; the input reads as it did. -/
def postBackUptoRow : OpenClaim := { program := "ytlmlanaobhfmbaa", sum := "13f6c051efd79c411d5ddf8c6424f9b8fffcd6a99e0a23b6a8785674fe3ab98f", func := "verbatim/verbatimlaw09.PostBack", spec := "postBack", unfollowed := true, recurses := true, apart := false, narrowed := true }
def PostBackUptoSaid : Prop := postBackUptoRow.holds Try.pinned (OpenSpec.upto postBackSpec)

/-- 'verbatimlaw09.PostOrder', WHERE WHAT IT READS IS OF BULK AT MOST 1048576: true; the input reads as it did. -/
def postOrderUptoRow : OpenClaim := { program := "ytlmlanaobhfmbaa", sum := "13f6c051efd79c411d5ddf8c6424f9b8fffcd6a99e0a23b6a8785674fe3ab98f", func := "verbatim/verbatimlaw09.PostOrder", spec := "postOrder", unfollowed := true, recurses := true, apart := false, narrowed := true }
def PostOrderUptoSaid : Prop := postOrderUptoRow.holds Try.pinned (OpenSpec.upto postOrderSpec)

/-- 'verbatimlaw09.PostCut', WHERE WHAT IT READS IS OF BULK AT MOST 1048576: true; the input reads as it did. -/
def postCutUptoRow : OpenClaim := { program := "ytlmlanaobhfmbaa", sum := "13f6c051efd79c411d5ddf8c6424f9b8fffcd6a99e0a23b6a8785674fe3ab98f", func := "verbatim/verbatimlaw09.PostCut", spec := "postCut", unfollowed := true, recurses := true, apart := false, narrowed := true }
def PostCutUptoSaid : Prop := postCutUptoRow.holds Try.pinned (OpenSpec.upto postCutSpec)

/-- 'verbatimlaw11.SetsGather', WHERE WHAT IT READS IS OF BULK AT MOST 1048576: true; the input reads as it did. -/
def setsGatherUptoRow : OpenClaim := { program := "ytlmlanaobhfmbaa", sum := "13f6c051efd79c411d5ddf8c6424f9b8fffcd6a99e0a23b6a8785674fe3ab98f", func := "verbatim/verbatimlaw11.SetsGather", spec := "setsGather", unfollowed := true, recurses := true, apart := false, narrowed := true }
def SetsGatherUptoSaid : Prop := setsGatherUptoRow.holds Try.pinned (OpenSpec.upto setsGatherSpec)

/-- 'verbatimlaw11.SetsWalks', WHERE WHAT IT READS IS OF BULK AT MOST 1048576: true; the input reads as it did. -/
def setsWalksUptoRow : OpenClaim := { program := "ytlmlanaobhfmbaa", sum := "13f6c051efd79c411d5ddf8c6424f9b8fffcd6a99e0a23b6a8785674fe3ab98f", func := "verbatim/verbatimlaw11.SetsWalks", spec := "setsWalks", unfollowed := true, recurses := true, apart := false, narrowed := true }
def SetsWalksUptoSaid : Prop := setsWalksUptoRow.holds Try.pinned (OpenSpec.upto setsWalksSpec)

/-- 'verbatimlaw11.SetsLaws', WHERE WHAT IT READS IS OF BULK AT MOST 1048576: true; the input reads as it did. -/
def setsLawsUptoRow : OpenClaim := { program := "ytlmlanaobhfmbaa", sum := "13f6c051efd79c411d5ddf8c6424f9b8fffcd6a99e0a23b6a8785674fe3ab98f", func := "verbatim/verbatimlaw11.SetsLaws", spec := "setsLaws", unfollowed := true, recurses := true, apart := false, narrowed := true }
def SetsLawsUptoSaid : Prop := setsLawsUptoRow.holds Try.pinned (OpenSpec.upto setsLawsSpec)

/-- 'verbatimlaw11.SetsMany', WHERE WHAT IT READS IS OF BULK AT MOST 1048576: true; the input reads as it did. -/
def setsManyUptoRow : OpenClaim := { program := "ytlmlanaobhfmbaa", sum := "13f6c051efd79c411d5ddf8c6424f9b8fffcd6a99e0a23b6a8785674fe3ab98f", func := "verbatim/verbatimlaw11.SetsMany", spec := "setsMany", unfollowed := true, recurses := true, apart := false, narrowed := true }
def SetsManyUptoSaid : Prop := setsManyUptoRow.holds Try.pinned (OpenSpec.upto setsManySpec)

/-- 'verbatimlaw10.CursorBytes', WHERE WHAT IT READS IS OF BULK AT MOST 1048576: true; the input reads as it did. -/
def cursorBytesUptoRow : OpenClaim := { program := "ytlmlanaobhfmbaa", sum := "13f6c051efd79c411d5ddf8c6424f9b8fffcd6a99e0a23b6a8785674fe3ab98f", func := "verbatim/verbatimlaw10.CursorBytes", spec := "cursorBytes", unfollowed := true, recurses := true, apart := false, narrowed := true }
def CursorBytesUptoSaid : Prop := cursorBytesUptoRow.holds Try.pinned (OpenSpec.upto cursorBytesSpec)

/-- 'verbatimlaw10.CursorReads', WHERE WHAT IT READS IS OF BULK AT MOST 1048576: true; the input reads as it did. -/
def cursorReadsUptoRow : OpenClaim := { program := "ytlmlanaobhfmbaa", sum := "13f6c051efd79c411d5ddf8c6424f9b8fffcd6a99e0a23b6a8785674fe3ab98f", func := "verbatim/verbatimlaw10.CursorReads", spec := "cursorReads", unfollowed := true, recurses := true, apart := false, narrowed := true }
def CursorReadsUptoSaid : Prop := cursorReadsUptoRow.holds Try.pinned (OpenSpec.upto cursorReadsSpec)

/-- 'verbatimlaw10.CursorPlays', WHERE WHAT IT READS IS OF BULK AT MOST 1048576: true; the input reads as it did. -/
def cursorPlaysUptoRow : OpenClaim := { program := "ytlmlanaobhfmbaa", sum := "13f6c051efd79c411d5ddf8c6424f9b8fffcd6a99e0a23b6a8785674fe3ab98f", func := "verbatim/verbatimlaw10.CursorPlays", spec := "cursorPlays", unfollowed := true, recurses := true, apart := false, narrowed := true }
def CursorPlaysUptoSaid : Prop := cursorPlaysUptoRow.holds Try.pinned (OpenSpec.upto cursorPlaysSpec)

/-- 'verbatimlaw10.CursorWalks', WHERE WHAT IT READS IS OF BULK AT MOST 1048576: true; the input reads as it did. -/
def cursorWalksUptoRow : OpenClaim := { program := "ytlmlanaobhfmbaa", sum := "13f6c051efd79c411d5ddf8c6424f9b8fffcd6a99e0a23b6a8785674fe3ab98f", func := "verbatim/verbatimlaw10.CursorWalks", spec := "cursorWalks", unfollowed := true, recurses := true, apart := false, narrowed := true }
def CursorWalksUptoSaid : Prop := cursorWalksUptoRow.holds Try.pinned (OpenSpec.upto cursorWalksSpec)

/-- 'verbatimlaw10.CursorSkips', WHERE WHAT IT READS IS OF BULK AT MOST 1048576: true; the input reads as it did. -/
def cursorSkipsUptoRow : OpenClaim := { program := "ytlmlanaobhfmbaa", sum := "13f6c051efd79c411d5ddf8c6424f9b8fffcd6a99e0a23b6a8785674fe3ab98f", func := "verbatim/verbatimlaw10.CursorSkips", spec := "cursorSkips", unfollowed := true, recurses := true, apart := false, narrowed := true }
def CursorSkipsUptoSaid : Prop := cursorSkipsUptoRow.holds Try.pinned (OpenSpec.upto cursorSkipsSpec)

/-- 'verbatimlaw11.SetsOf', WHERE WHAT IT READS IS OF BULK AT MOST 1048576: true; the input reads as it did. -/
def setsOfUptoRow : OpenClaim := { program := "ytlmlanaobhfmbaa", sum := "13f6c051efd79c411d5ddf8c6424f9b8fffcd6a99e0a23b6a8785674fe3ab98f", func := "verbatim/verbatimlaw11.SetsOf", spec := "setsOf", unfollowed := true, recurses := true, apart := false, narrowed := true }
def SetsOfUptoSaid : Prop := setsOfUptoRow.holds Try.pinned (OpenSpec.upto setsOfSpec)

end Rows
end Go.Proofs.Ytlmlanaobhfmbaa
