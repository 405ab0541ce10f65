/-
  No cell of these rows narrows 'for every input' (looked for: loops, veiled, ifaces, maps, wideKeys, modest, calm, conditions, laid).
  DERIVED. THE GIVEN ROWS OF THIS SEAT. 25 by the template 'for every input the law returns true; each argument reads behind the call as it read before'; 0 by the template 'total and deterministic' (their statements: YtncooadaeifekaaTotals.lean).
  GIVEN WITH THE SEED: the statements are not yours to turn. If you find one false, say at which input.
  Laid BY PROGRAM, IN A SANDBOX (cutbox-rows.mjs): the forced cells as the released guide's own fill.sh prints them over the translation af864dd2903ddf85… (all of the seat's roots in one cut). By AI agents, Wed Nov 11 2026. No macro, syntax, notation, axiom, sorry.
-/
import Derived.Test.YtncooadaeifekaaChecked
import GoSem.Claim
import GoSem.ClaimJoined
import GoSem.ClaimMapViews
import Derived.JoinedTies
import Derived.KernelRfl
namespace Go.Proofs.Ytncooadaeifekaa
/- THE CELL 'sum', in the pinned program and in every row, IS THE sha256 OF THE DUMP (.gsa) THAT YtncooadaeifekaaProg.lean LOADS. Nothing in Lean hashes anything: it is a label: what it is worth is what the hold of that sum in a sandbox is worth. -/
noncomputable def Try.pinned : Pinned := { name := "ytncooadaeifekaa", sum := "af864dd2903ddf85bf34ee24c63dbba4bb31e5e3b6daaca34ae5d44cd81d401f", checked := Try.checked }
namespace Rows
def none {H : Type} : Left H := { results := [], args := [] }

/-- 'revetmentlaw01.CrcUnlike': WHATEVER THE INPUT: true; the input reads as it did. -/
def crcUnlikeSpec : ChangeSpec := { name := "crcUnlike", fn := fun _ => fun
  | [d1, d2] => { results := [.lit (.bool true)], args := [d1, d2] }
  | _ => none }
def crcUnlikeRow : OpenClaim := { program := "ytncooadaeifekaa", sum := "af864dd2903ddf85bf34ee24c63dbba4bb31e5e3b6daaca34ae5d44cd81d401f", func := "revetment/revetmentlaw01.CrcUnlike", spec := "crcUnlike", apart := false }
def CrcUnlikeSaid : Prop := crcUnlikeRow.holds Try.pinned (OpenSpec.ofChange crcUnlikeSpec)

/-- ITS FALSE NEIGHBOUR: 'it returns false'. Refute it at one input. -/
def crcUnlikeWrong : ChangeSpec := { name := "crcUnlike", fn := fun _ => fun
  | [d1, d2] => { results := [.lit (.bool false)], args := [d1, d2] }
  | _ => none }
def CrcUnlikeWrongFalsely : Prop := crcUnlikeRow.holds Try.pinned (OpenSpec.ofChange crcUnlikeWrong)

/-- 'revetmentlaw01.CrcSums': WHATEVER THE INPUT: true; the input reads as it did. -/
def crcSumsSpec : ChangeSpec := { name := "crcSums", fn := fun _ => fun
  | [d1, d2, d3, d4] => { results := [.lit (.bool true)], args := [d1, d2, d3, d4] }
  | _ => none }
def crcSumsRow : OpenClaim := { program := "ytncooadaeifekaa", sum := "af864dd2903ddf85bf34ee24c63dbba4bb31e5e3b6daaca34ae5d44cd81d401f", func := "revetment/revetmentlaw01.CrcSums", spec := "crcSums", apart := false }
def CrcSumsSaid : Prop := crcSumsRow.holds Try.pinned (OpenSpec.ofChange crcSumsSpec)

/-- ITS FALSE NEIGHBOUR: 'it returns false'. Refute it at one input. -/
def crcSumsWrong : ChangeSpec := { name := "crcSums", fn := fun _ => fun
  | [d1, d2, d3, d4] => { results := [.lit (.bool false)], args := [d1, d2, d3, d4] }
  | _ => none }
def CrcSumsWrongFalsely : Prop := crcSumsRow.holds Try.pinned (OpenSpec.ofChange crcSumsWrong)

/-- 'revetmentlaw01.CrcLinear': WHATEVER THE INPUT: true; the input reads as it did. -/
def crcLinearSpec : ChangeSpec := { name := "crcLinear", fn := fun _ => fun
  | [d1, d2, d3] => { results := [.lit (.bool true)], args := [d1, d2, d3] }
  | _ => none }
def crcLinearRow : OpenClaim := { program := "ytncooadaeifekaa", sum := "af864dd2903ddf85bf34ee24c63dbba4bb31e5e3b6daaca34ae5d44cd81d401f", func := "revetment/revetmentlaw01.CrcLinear", spec := "crcLinear", apart := false }
def CrcLinearSaid : Prop := crcLinearRow.holds Try.pinned (OpenSpec.ofChange crcLinearSpec)

/-- ITS FALSE NEIGHBOUR: 'it returns false'. Refute it at one input. -/
def crcLinearWrong : ChangeSpec := { name := "crcLinear", fn := fun _ => fun
  | [d1, d2, d3] => { results := [.lit (.bool false)], args := [d1, d2, d3] }
  | _ => none }
def CrcLinearWrongFalsely : Prop := crcLinearRow.holds Try.pinned (OpenSpec.ofChange crcLinearWrong)

/-- 'revetmentlaw01.CrcParts': WHATEVER THE INPUT: true; the input reads as it did. -/
def crcPartsSpec : ChangeSpec := { name := "crcParts", fn := fun _ => fun
  | [d1, d2] => { results := [.lit (.bool true)], args := [d1, d2] }
  | _ => none }
def crcPartsRow : OpenClaim := { program := "ytncooadaeifekaa", sum := "af864dd2903ddf85bf34ee24c63dbba4bb31e5e3b6daaca34ae5d44cd81d401f", func := "revetment/revetmentlaw01.CrcParts", spec := "crcParts", apart := false }
def CrcPartsSaid : Prop := crcPartsRow.holds Try.pinned (OpenSpec.ofChange crcPartsSpec)

/-- ITS FALSE NEIGHBOUR: 'it returns false'. Refute it at one input. -/
def crcPartsWrong : ChangeSpec := { name := "crcParts", fn := fun _ => fun
  | [d1, d2] => { results := [.lit (.bool false)], args := [d1, d2] }
  | _ => none }
def CrcPartsWrongFalsely : Prop := crcPartsRow.holds Try.pinned (OpenSpec.ofChange crcPartsWrong)

/-- 'revetmentlaw01.CrcBursts': WHATEVER THE INPUT: true; the input reads as it did. -/
def crcBurstsSpec : ChangeSpec := { name := "crcBursts", fn := fun _ => fun
  | [d1, d2, d3] => { results := [.lit (.bool true)], args := [d1, d2, d3] }
  | _ => none }
def crcBurstsRow : OpenClaim := { program := "ytncooadaeifekaa", sum := "af864dd2903ddf85bf34ee24c63dbba4bb31e5e3b6daaca34ae5d44cd81d401f", func := "revetment/revetmentlaw01.CrcBursts", spec := "crcBursts", apart := false }
def CrcBurstsSaid : Prop := crcBurstsRow.holds Try.pinned (OpenSpec.ofChange crcBurstsSpec)

/-- ITS FALSE NEIGHBOUR: 'it returns false'. Refute it at one input. -/
def crcBurstsWrong : ChangeSpec := { name := "crcBursts", fn := fun _ => fun
  | [d1, d2, d3] => { results := [.lit (.bool false)], args := [d1, d2, d3] }
  | _ => none }
def CrcBurstsWrongFalsely : Prop := crcBurstsRow.holds Try.pinned (OpenSpec.ofChange crcBurstsWrong)

/-- 'revetmentlaw01.CrcTwo': WHATEVER THE INPUT: true; the input reads as it did. -/
def crcTwoSpec : ChangeSpec := { name := "crcTwo", fn := fun _ => fun
  | [d1, d2, d3] => { results := [.lit (.bool true)], args := [d1, d2, d3] }
  | _ => none }
def crcTwoRow : OpenClaim := { program := "ytncooadaeifekaa", sum := "af864dd2903ddf85bf34ee24c63dbba4bb31e5e3b6daaca34ae5d44cd81d401f", func := "revetment/revetmentlaw01.CrcTwo", spec := "crcTwo", apart := false }
def CrcTwoSaid : Prop := crcTwoRow.holds Try.pinned (OpenSpec.ofChange crcTwoSpec)

/-- ITS FALSE NEIGHBOUR: 'it returns false'. Refute it at one input. -/
def crcTwoWrong : ChangeSpec := { name := "crcTwo", fn := fun _ => fun
  | [d1, d2, d3] => { results := [.lit (.bool false)], args := [d1, d2, d3] }
  | _ => none }
def CrcTwoWrongFalsely : Prop := crcTwoRow.holds Try.pinned (OpenSpec.ofChange crcTwoWrong)

/-- 'revetmentlaw03.FrameEncodes': WHATEVER THE INPUT: true; the input reads as it did. -/
def frameEncodesSpec : ChangeSpec := { name := "frameEncodes", fn := fun _ => fun
  | [d1, d2, d3] => { results := [.lit (.bool true)], args := [d1, d2, d3] }
  | _ => none }
def frameEncodesRow : OpenClaim := { program := "ytncooadaeifekaa", sum := "af864dd2903ddf85bf34ee24c63dbba4bb31e5e3b6daaca34ae5d44cd81d401f", func := "revetment/revetmentlaw03.FrameEncodes", spec := "frameEncodes", apart := false }
def FrameEncodesSaid : Prop := frameEncodesRow.holds Try.pinned (OpenSpec.ofChange frameEncodesSpec)

/-- ITS FALSE NEIGHBOUR: 'it returns false'. Refute it at one input. -/
def frameEncodesWrong : ChangeSpec := { name := "frameEncodes", fn := fun _ => fun
  | [d1, d2, d3] => { results := [.lit (.bool false)], args := [d1, d2, d3] }
  | _ => none }
def FrameEncodesWrongFalsely : Prop := frameEncodesRow.holds Try.pinned (OpenSpec.ofChange frameEncodesWrong)

/-- 'revetmentlaw02.CodecWidths': WHATEVER THE INPUT: true; the input reads as it did. -/
def codecWidthsSpec : ChangeSpec := { name := "codecWidths", fn := fun _ => fun
  | [d] => { results := [.lit (.bool true)], args := [d] }
  | _ => none }
def codecWidthsRow : OpenClaim := { program := "ytncooadaeifekaa", sum := "af864dd2903ddf85bf34ee24c63dbba4bb31e5e3b6daaca34ae5d44cd81d401f", func := "revetment/revetmentlaw02.CodecWidths", spec := "codecWidths", apart := false }
def CodecWidthsSaid : Prop := codecWidthsRow.holds Try.pinned (OpenSpec.ofChange codecWidthsSpec)

/-- ITS FALSE NEIGHBOUR: 'it returns false'. Refute it at one input. -/
def codecWidthsWrong : ChangeSpec := { name := "codecWidths", fn := fun _ => fun
  | [d] => { results := [.lit (.bool false)], args := [d] }
  | _ => none }
def CodecWidthsWrongFalsely : Prop := codecWidthsRow.holds Try.pinned (OpenSpec.ofChange codecWidthsWrong)

/-- 'revetmentlaw01.CrcOpens': WHATEVER THE INPUT: true; the input reads as it did. -/
def crcOpensSpec : ChangeSpec := { name := "crcOpens", fn := fun _ => fun
  | [d1, d2] => { results := [.lit (.bool true)], args := [d1, d2] }
  | _ => none }
def crcOpensRow : OpenClaim := { program := "ytncooadaeifekaa", sum := "af864dd2903ddf85bf34ee24c63dbba4bb31e5e3b6daaca34ae5d44cd81d401f", func := "revetment/revetmentlaw01.CrcOpens", spec := "crcOpens", apart := false }
def CrcOpensSaid : Prop := crcOpensRow.holds Try.pinned (OpenSpec.ofChange crcOpensSpec)

/-- ITS FALSE NEIGHBOUR: 'it returns false'. Refute it at one input. -/
def crcOpensWrong : ChangeSpec := { name := "crcOpens", fn := fun _ => fun
  | [d1, d2] => { results := [.lit (.bool false)], args := [d1, d2] }
  | _ => none }
def CrcOpensWrongFalsely : Prop := crcOpensRow.holds Try.pinned (OpenSpec.ofChange crcOpensWrong)

/-- 'revetmentlaw03.FrameBound': WHATEVER THE INPUT: true; the input reads as it did. -/
def frameBoundSpec : ChangeSpec := { name := "frameBound", fn := fun _ => fun
  | [d1, d2, d3] => { results := [.lit (.bool true)], args := [d1, d2, d3] }
  | _ => none }
def frameBoundRow : OpenClaim := { program := "ytncooadaeifekaa", sum := "af864dd2903ddf85bf34ee24c63dbba4bb31e5e3b6daaca34ae5d44cd81d401f", func := "revetment/revetmentlaw03.FrameBound", spec := "frameBound", apart := false }
def FrameBoundSaid : Prop := frameBoundRow.holds Try.pinned (OpenSpec.ofChange frameBoundSpec)

/-- ITS FALSE NEIGHBOUR: 'it returns false'. Refute it at one input. -/
def frameBoundWrong : ChangeSpec := { name := "frameBound", fn := fun _ => fun
  | [d1, d2, d3] => { results := [.lit (.bool false)], args := [d1, d2, d3] }
  | _ => none }
def FrameBoundWrongFalsely : Prop := frameBoundRow.holds Try.pinned (OpenSpec.ofChange frameBoundWrong)

/-- 'revetmentlaw02.CodecOwn': WHATEVER THE INPUT: true; the input reads as it did. -/
def codecOwnSpec : ChangeSpec := { name := "codecOwn", fn := fun _ => fun
  | [d1, d2] => { results := [.lit (.bool true)], args := [d1, d2] }
  | _ => none }
def codecOwnRow : OpenClaim := { program := "ytncooadaeifekaa", sum := "af864dd2903ddf85bf34ee24c63dbba4bb31e5e3b6daaca34ae5d44cd81d401f", func := "revetment/revetmentlaw02.CodecOwn", spec := "codecOwn", apart := false }
def CodecOwnSaid : Prop := codecOwnRow.holds Try.pinned (OpenSpec.ofChange codecOwnSpec)

/-- ITS FALSE NEIGHBOUR: 'it returns false'. Refute it at one input. -/
def codecOwnWrong : ChangeSpec := { name := "codecOwn", fn := fun _ => fun
  | [d1, d2] => { results := [.lit (.bool false)], args := [d1, d2] }
  | _ => none }
def CodecOwnWrongFalsely : Prop := codecOwnRow.holds Try.pinned (OpenSpec.ofChange codecOwnWrong)

/-- 'revetmentlaw01.CrcPatterns': WHATEVER THE INPUT: true; the input reads as it did. -/
def crcPatternsSpec : ChangeSpec := { name := "crcPatterns", fn := fun _ => fun
  | [d1, d2] => { results := [.lit (.bool true)], args := [d1, d2] }
  | _ => none }
def crcPatternsRow : OpenClaim := { program := "ytncooadaeifekaa", sum := "af864dd2903ddf85bf34ee24c63dbba4bb31e5e3b6daaca34ae5d44cd81d401f", func := "revetment/revetmentlaw01.CrcPatterns", spec := "crcPatterns", apart := false }
def CrcPatternsSaid : Prop := crcPatternsRow.holds Try.pinned (OpenSpec.ofChange crcPatternsSpec)

/-- ITS FALSE NEIGHBOUR: 'it returns false'. Refute it at one input. -/
def crcPatternsWrong : ChangeSpec := { name := "crcPatterns", fn := fun _ => fun
  | [d1, d2] => { results := [.lit (.bool false)], args := [d1, d2] }
  | _ => none }
def CrcPatternsWrongFalsely : Prop := crcPatternsRow.holds Try.pinned (OpenSpec.ofChange crcPatternsWrong)

/-- 'revetmentlaw02.CodecNumbers': WHATEVER THE INPUT: true; the input reads as it did. -/
def codecNumbersSpec : ChangeSpec := { name := "codecNumbers", fn := fun _ => fun
  | [d1, d2, d3] => { results := [.lit (.bool true)], args := [d1, d2, d3] }
  | _ => none }
def codecNumbersRow : OpenClaim := { program := "ytncooadaeifekaa", sum := "af864dd2903ddf85bf34ee24c63dbba4bb31e5e3b6daaca34ae5d44cd81d401f", func := "revetment/revetmentlaw02.CodecNumbers", spec := "codecNumbers", apart := false }
def CodecNumbersSaid : Prop := codecNumbersRow.holds Try.pinned (OpenSpec.ofChange codecNumbersSpec)

/-- ITS FALSE NEIGHBOUR: 'it returns false'. Refute it at one input. -/
def codecNumbersWrong : ChangeSpec := { name := "codecNumbers", fn := fun _ => fun
  | [d1, d2, d3] => { results := [.lit (.bool false)], args := [d1, d2, d3] }
  | _ => none }
def CodecNumbersWrongFalsely : Prop := codecNumbersRow.holds Try.pinned (OpenSpec.ofChange codecNumbersWrong)

/-- 'revetmentlaw02.CodecReads': WHATEVER THE INPUT: true; the input reads as it did. -/
def codecReadsSpec : ChangeSpec := { name := "codecReads", fn := fun _ => fun
  | [d1, d2] => { results := [.lit (.bool true)], args := [d1, d2] }
  | _ => none }
def codecReadsRow : OpenClaim := { program := "ytncooadaeifekaa", sum := "af864dd2903ddf85bf34ee24c63dbba4bb31e5e3b6daaca34ae5d44cd81d401f", func := "revetment/revetmentlaw02.CodecReads", spec := "codecReads", apart := false }
def CodecReadsSaid : Prop := codecReadsRow.holds Try.pinned (OpenSpec.ofChange codecReadsSpec)

/-- ITS FALSE NEIGHBOUR: 'it returns false'. Refute it at one input. -/
def codecReadsWrong : ChangeSpec := { name := "codecReads", fn := fun _ => fun
  | [d1, d2] => { results := [.lit (.bool false)], args := [d1, d2] }
  | _ => none }
def CodecReadsWrongFalsely : Prop := codecReadsRow.holds Try.pinned (OpenSpec.ofChange codecReadsWrong)

/-- 'revetmentlaw02.CodecWrites': WHATEVER THE INPUT: true; the input reads as it did. -/
def codecWritesSpec : ChangeSpec := { name := "codecWrites", fn := fun _ => fun
  | [d] => { results := [.lit (.bool true)], args := [d] }
  | _ => none }
def codecWritesRow : OpenClaim := { program := "ytncooadaeifekaa", sum := "af864dd2903ddf85bf34ee24c63dbba4bb31e5e3b6daaca34ae5d44cd81d401f", func := "revetment/revetmentlaw02.CodecWrites", spec := "codecWrites", apart := false }
def CodecWritesSaid : Prop := codecWritesRow.holds Try.pinned (OpenSpec.ofChange codecWritesSpec)

/-- ITS FALSE NEIGHBOUR: 'it returns false'. Refute it at one input. -/
def codecWritesWrong : ChangeSpec := { name := "codecWrites", fn := fun _ => fun
  | [d] => { results := [.lit (.bool false)], args := [d] }
  | _ => none }
def CodecWritesWrongFalsely : Prop := codecWritesRow.holds Try.pinned (OpenSpec.ofChange codecWritesWrong)

/-- 'revetmentlaw04.EntryUnlike': WHATEVER THE INPUT: true; the input reads as it did. -/
def entryUnlikeSpec : ChangeSpec := { name := "entryUnlike", fn := fun _ => fun
  | [d1, d2] => { results := [.lit (.bool true)], args := [d1, d2] }
  | _ => none }
def entryUnlikeRow : OpenClaim := { program := "ytncooadaeifekaa", sum := "af864dd2903ddf85bf34ee24c63dbba4bb31e5e3b6daaca34ae5d44cd81d401f", func := "revetment/revetmentlaw04.EntryUnlike", spec := "entryUnlike", apart := false }
def EntryUnlikeSaid : Prop := entryUnlikeRow.holds Try.pinned (OpenSpec.ofChange entryUnlikeSpec)

/-- ITS FALSE NEIGHBOUR: 'it returns false'. Refute it at one input. -/
def entryUnlikeWrong : ChangeSpec := { name := "entryUnlike", fn := fun _ => fun
  | [d1, d2] => { results := [.lit (.bool false)], args := [d1, d2] }
  | _ => none }
def EntryUnlikeWrongFalsely : Prop := entryUnlikeRow.holds Try.pinned (OpenSpec.ofChange entryUnlikeWrong)

/-- 'revetmentlaw04.EntryGroups': WHATEVER THE INPUT: true; the input reads as it did. -/
def entryGroupsSpec : ChangeSpec := { name := "entryGroups", fn := fun _ => fun
  | [d1, d2] => { results := [.lit (.bool true)], args := [d1, d2] }
  | _ => none }
def entryGroupsRow : OpenClaim := { program := "ytncooadaeifekaa", sum := "af864dd2903ddf85bf34ee24c63dbba4bb31e5e3b6daaca34ae5d44cd81d401f", func := "revetment/revetmentlaw04.EntryGroups", spec := "entryGroups", apart := false }
def EntryGroupsSaid : Prop := entryGroupsRow.holds Try.pinned (OpenSpec.ofChange entryGroupsSpec)

/-- ITS FALSE NEIGHBOUR: 'it returns false'. Refute it at one input. -/
def entryGroupsWrong : ChangeSpec := { name := "entryGroups", fn := fun _ => fun
  | [d1, d2] => { results := [.lit (.bool false)], args := [d1, d2] }
  | _ => none }
def EntryGroupsWrongFalsely : Prop := entryGroupsRow.holds Try.pinned (OpenSpec.ofChange entryGroupsWrong)

/-- 'revetmentlaw04.EntryFills': WHATEVER THE INPUT: true; the input reads as it did. -/
def entryFillsSpec : ChangeSpec := { name := "entryFills", fn := fun _ => fun
  | [d1, d2, d3] => { results := [.lit (.bool true)], args := [d1, d2, d3] }
  | _ => none }
def entryFillsRow : OpenClaim := { program := "ytncooadaeifekaa", sum := "af864dd2903ddf85bf34ee24c63dbba4bb31e5e3b6daaca34ae5d44cd81d401f", func := "revetment/revetmentlaw04.EntryFills", spec := "entryFills", apart := false }
def EntryFillsSaid : Prop := entryFillsRow.holds Try.pinned (OpenSpec.ofChange entryFillsSpec)

/-- ITS FALSE NEIGHBOUR: 'it returns false'. Refute it at one input. -/
def entryFillsWrong : ChangeSpec := { name := "entryFills", fn := fun _ => fun
  | [d1, d2, d3] => { results := [.lit (.bool false)], args := [d1, d2, d3] }
  | _ => none }
def EntryFillsWrongFalsely : Prop := entryFillsRow.holds Try.pinned (OpenSpec.ofChange entryFillsWrong)

/-- 'revetmentlaw04.EntryBodies': WHATEVER THE INPUT: true; the input reads as it did. -/
def entryBodiesSpec : ChangeSpec := { name := "entryBodies", fn := fun _ => fun
  | [d1, d2, d3] => { results := [.lit (.bool true)], args := [d1, d2, d3] }
  | _ => none }
def entryBodiesRow : OpenClaim := { program := "ytncooadaeifekaa", sum := "af864dd2903ddf85bf34ee24c63dbba4bb31e5e3b6daaca34ae5d44cd81d401f", func := "revetment/revetmentlaw04.EntryBodies", spec := "entryBodies", apart := false }
def EntryBodiesSaid : Prop := entryBodiesRow.holds Try.pinned (OpenSpec.ofChange entryBodiesSpec)

/-- ITS FALSE NEIGHBOUR: 'it returns false'. Refute it at one input. -/
def entryBodiesWrong : ChangeSpec := { name := "entryBodies", fn := fun _ => fun
  | [d1, d2, d3] => { results := [.lit (.bool false)], args := [d1, d2, d3] }
  | _ => none }
def EntryBodiesWrongFalsely : Prop := entryBodiesRow.holds Try.pinned (OpenSpec.ofChange entryBodiesWrong)

/-- 'revetmentlaw04.EntryFrames': WHATEVER THE INPUT: true; the input reads as it did. -/
def entryFramesSpec : ChangeSpec := { name := "entryFrames", fn := fun _ => fun
  | [d1, d2, d3, d4, d5] => { results := [.lit (.bool true)], args := [d1, d2, d3, d4, d5] }
  | _ => none }
def entryFramesRow : OpenClaim := { program := "ytncooadaeifekaa", sum := "af864dd2903ddf85bf34ee24c63dbba4bb31e5e3b6daaca34ae5d44cd81d401f", func := "revetment/revetmentlaw04.EntryFrames", spec := "entryFrames", apart := false }
def EntryFramesSaid : Prop := entryFramesRow.holds Try.pinned (OpenSpec.ofChange entryFramesSpec)

/-- ITS FALSE NEIGHBOUR: 'it returns false'. Refute it at one input. -/
def entryFramesWrong : ChangeSpec := { name := "entryFrames", fn := fun _ => fun
  | [d1, d2, d3, d4, d5] => { results := [.lit (.bool false)], args := [d1, d2, d3, d4, d5] }
  | _ => none }
def EntryFramesWrongFalsely : Prop := entryFramesRow.holds Try.pinned (OpenSpec.ofChange entryFramesWrong)

/-- 'revetmentlaw04.EntryReads': WHATEVER THE INPUT: true; the input reads as it did. -/
def entryReadsSpec : ChangeSpec := { name := "entryReads", fn := fun _ => fun
  | [d] => { results := [.lit (.bool true)], args := [d] }
  | _ => none }
def entryReadsRow : OpenClaim := { program := "ytncooadaeifekaa", sum := "af864dd2903ddf85bf34ee24c63dbba4bb31e5e3b6daaca34ae5d44cd81d401f", func := "revetment/revetmentlaw04.EntryReads", spec := "entryReads", apart := false }
def EntryReadsSaid : Prop := entryReadsRow.holds Try.pinned (OpenSpec.ofChange entryReadsSpec)

/-- ITS FALSE NEIGHBOUR: 'it returns false'. Refute it at one input. -/
def entryReadsWrong : ChangeSpec := { name := "entryReads", fn := fun _ => fun
  | [d] => { results := [.lit (.bool false)], args := [d] }
  | _ => none }
def EntryReadsWrongFalsely : Prop := entryReadsRow.holds Try.pinned (OpenSpec.ofChange entryReadsWrong)

/-- 'revetmentlaw03.FrameUnlike': WHATEVER THE INPUT: true; the input reads as it did. -/
def frameUnlikeSpec : ChangeSpec := { name := "frameUnlike", fn := fun _ => fun
  | [d1, d2] => { results := [.lit (.bool true)], args := [d1, d2] }
  | _ => none }
def frameUnlikeRow : OpenClaim := { program := "ytncooadaeifekaa", sum := "af864dd2903ddf85bf34ee24c63dbba4bb31e5e3b6daaca34ae5d44cd81d401f", func := "revetment/revetmentlaw03.FrameUnlike", spec := "frameUnlike", apart := false }
def FrameUnlikeSaid : Prop := frameUnlikeRow.holds Try.pinned (OpenSpec.ofChange frameUnlikeSpec)

/-- ITS FALSE NEIGHBOUR: 'it returns false'. Refute it at one input. -/
def frameUnlikeWrong : ChangeSpec := { name := "frameUnlike", fn := fun _ => fun
  | [d1, d2] => { results := [.lit (.bool false)], args := [d1, d2] }
  | _ => none }
def FrameUnlikeWrongFalsely : Prop := frameUnlikeRow.holds Try.pinned (OpenSpec.ofChange frameUnlikeWrong)

/-- 'revetmentlaw03.FrameFlips': WHATEVER THE INPUT: true; the input reads as it did. -/
def frameFlipsSpec : ChangeSpec := { name := "frameFlips", fn := fun _ => fun
  | [d1, d2, d3] => { results := [.lit (.bool true)], args := [d1, d2, d3] }
  | _ => none }
def frameFlipsRow : OpenClaim := { program := "ytncooadaeifekaa", sum := "af864dd2903ddf85bf34ee24c63dbba4bb31e5e3b6daaca34ae5d44cd81d401f", func := "revetment/revetmentlaw03.FrameFlips", spec := "frameFlips", apart := false }
def FrameFlipsSaid : Prop := frameFlipsRow.holds Try.pinned (OpenSpec.ofChange frameFlipsSpec)

/-- ITS FALSE NEIGHBOUR: 'it returns false'. Refute it at one input. -/
def frameFlipsWrong : ChangeSpec := { name := "frameFlips", fn := fun _ => fun
  | [d1, d2, d3] => { results := [.lit (.bool false)], args := [d1, d2, d3] }
  | _ => none }
def FrameFlipsWrongFalsely : Prop := frameFlipsRow.holds Try.pinned (OpenSpec.ofChange frameFlipsWrong)

/-- 'revetmentlaw03.FrameDecodes': WHATEVER THE INPUT: true; the input reads as it did. -/
def frameDecodesSpec : ChangeSpec := { name := "frameDecodes", fn := fun _ => fun
  | [d] => { results := [.lit (.bool true)], args := [d] }
  | _ => none }
def frameDecodesRow : OpenClaim := { program := "ytncooadaeifekaa", sum := "af864dd2903ddf85bf34ee24c63dbba4bb31e5e3b6daaca34ae5d44cd81d401f", func := "revetment/revetmentlaw03.FrameDecodes", spec := "frameDecodes", apart := false }
def FrameDecodesSaid : Prop := frameDecodesRow.holds Try.pinned (OpenSpec.ofChange frameDecodesSpec)

/-- ITS FALSE NEIGHBOUR: 'it returns false'. Refute it at one input. -/
def frameDecodesWrong : ChangeSpec := { name := "frameDecodes", fn := fun _ => fun
  | [d] => { results := [.lit (.bool false)], args := [d] }
  | _ => none }
def FrameDecodesWrongFalsely : Prop := frameDecodesRow.holds Try.pinned (OpenSpec.ofChange frameDecodesWrong)

/-- 'revetmentlaw03.FrameSpoilt': WHATEVER THE INPUT: true; the input reads as it did. -/
def frameSpoiltSpec : ChangeSpec := { name := "frameSpoilt", fn := fun _ => fun
  | [d1, d2] => { results := [.lit (.bool true)], args := [d1, d2] }
  | _ => none }
def frameSpoiltRow : OpenClaim := { program := "ytncooadaeifekaa", sum := "af864dd2903ddf85bf34ee24c63dbba4bb31e5e3b6daaca34ae5d44cd81d401f", func := "revetment/revetmentlaw03.FrameSpoilt", spec := "frameSpoilt", apart := false }
def FrameSpoiltSaid : Prop := frameSpoiltRow.holds Try.pinned (OpenSpec.ofChange frameSpoiltSpec)

/-- ITS FALSE NEIGHBOUR: 'it returns false'. Refute it at one input. -/
def frameSpoiltWrong : ChangeSpec := { name := "frameSpoilt", fn := fun _ => fun
  | [d1, d2] => { results := [.lit (.bool false)], args := [d1, d2] }
  | _ => none }
def FrameSpoiltWrongFalsely : Prop := frameSpoiltRow.holds Try.pinned (OpenSpec.ofChange frameSpoiltWrong)

/- THE SECOND FORM. 'bulk': how many values and letters a reading holds, each counted each time it is reached (what is shared counts as often as it is met; a slice's spare places count too). A statement '..UptoSaid' is the law's where the arguments, and the package variables that the reading takes, are together of bulk at most 1048576: NARROWER than '..Said'. Prove '..Said' where nothing that the law and all that it calls make is longer than what came in: it says more and counts as full. Else prove '..UptoSaid'. A law counts once. -/
mutual
def uptoBulk {H : Type} : DataW H → Nat
  | .lit (.string bytes) => bytes.length + 1
  | .lit _ => 1
  | .nil => 1
  | .ptr d => uptoBulk d + 1
  | .slice elems spare => uptoBulkAll elems + uptoBulkAll spare + 1
  | .agg parts => uptoBulkAll parts + 1
  | .iface _ d => uptoBulk d + 1
  | .map entries => uptoBulkEntries entries + 1
  | .held _ => 1
def uptoBulkAll {H : Type} : List (DataW H) → Nat
  | [] => 0
  | d :: r => uptoBulk d + uptoBulkAll r
def uptoBulkEntries {H : Type} : List (Lit × DataW H) → Nat
  | [] => 0
  | x :: r => uptoBulkEntry x + uptoBulkEntries r
def uptoBulkEntry {H : Type} : Lit × DataW H → Nat
  | (.string bytes, d) => bytes.length + uptoBulk d + 1
  | (_, d) => uptoBulk d + 1
 end
def uptoSmall : (H : Type) → List (DataW H) → Bool := fun _ ds => decide (uptoBulkAll ds ≤ 1048576)
def OpenSpec.upto (s : _root_.Go.ChangeSpec) : _root_.Go.OpenSpec := { _root_.Go.OpenSpec.ofChange s with cond := some uptoSmall }

/-- 'revetmentlaw01.CrcUnlike', WHERE WHAT IT READS IS OF BULK AT MOST 1048576: true; the input reads as it did. -/
def crcUnlikeUptoRow : OpenClaim := { program := "ytncooadaeifekaa", sum := "af864dd2903ddf85bf34ee24c63dbba4bb31e5e3b6daaca34ae5d44cd81d401f", func := "revetment/revetmentlaw01.CrcUnlike", spec := "crcUnlike", apart := false, narrowed := true }
def CrcUnlikeUptoSaid : Prop := crcUnlikeUptoRow.holds Try.pinned (OpenSpec.upto crcUnlikeSpec)

/-- 'revetmentlaw01.CrcSums', WHERE WHAT IT READS IS OF BULK AT MOST 1048576: true; the input reads as it did. -/
def crcSumsUptoRow : OpenClaim := { program := "ytncooadaeifekaa", sum := "af864dd2903ddf85bf34ee24c63dbba4bb31e5e3b6daaca34ae5d44cd81d401f", func := "revetment/revetmentlaw01.CrcSums", spec := "crcSums", apart := false, narrowed := true }
def CrcSumsUptoSaid : Prop := crcSumsUptoRow.holds Try.pinned (OpenSpec.upto crcSumsSpec)

/-- 'revetmentlaw01.CrcLinear', WHERE WHAT IT READS IS OF BULK AT MOST 1048576: true; the input reads as it did. -/
def crcLinearUptoRow : OpenClaim := { program := "ytncooadaeifekaa", sum := "af864dd2903ddf85bf34ee24c63dbba4bb31e5e3b6daaca34ae5d44cd81d401f", func := "revetment/revetmentlaw01.CrcLinear", spec := "crcLinear", apart := false, narrowed := true }
def CrcLinearUptoSaid : Prop := crcLinearUptoRow.holds Try.pinned (OpenSpec.upto crcLinearSpec)

/-- 'revetmentlaw01.CrcParts', WHERE WHAT IT READS IS OF BULK AT MOST 1048576: true; the input reads as it did. -/
def crcPartsUptoRow : OpenClaim := { program := "ytncooadaeifekaa", sum := "af864dd2903ddf85bf34ee24c63dbba4bb31e5e3b6daaca34ae5d44cd81d401f", func := "revetment/revetmentlaw01.CrcParts", spec := "crcParts", apart := false, narrowed := true }
def CrcPartsUptoSaid : Prop := crcPartsUptoRow.holds Try.pinned (OpenSpec.upto crcPartsSpec)

/-- 'revetmentlaw01.CrcBursts', WHERE WHAT IT READS IS OF BULK AT MOST 1048576: true; the input reads as it did. -/
def crcBurstsUptoRow : OpenClaim := { program := "ytncooadaeifekaa", sum := "af864dd2903ddf85bf34ee24c63dbba4bb31e5e3b6daaca34ae5d44cd81d401f", func := "revetment/revetmentlaw01.CrcBursts", spec := "crcBursts", apart := false, narrowed := true }
def CrcBurstsUptoSaid : Prop := crcBurstsUptoRow.holds Try.pinned (OpenSpec.upto crcBurstsSpec)

/-- 'revetmentlaw01.CrcTwo', WHERE WHAT IT READS IS OF BULK AT MOST 1048576: true; the input reads as it did. -/
def crcTwoUptoRow : OpenClaim := { program := "ytncooadaeifekaa", sum := "af864dd2903ddf85bf34ee24c63dbba4bb31e5e3b6daaca34ae5d44cd81d401f", func := "revetment/revetmentlaw01.CrcTwo", spec := "crcTwo", apart := false, narrowed := true }
def CrcTwoUptoSaid : Prop := crcTwoUptoRow.holds Try.pinned (OpenSpec.upto crcTwoSpec)

/-- 'revetmentlaw03.FrameEncodes', WHERE WHAT IT READS IS OF BULK AT MOST 1048576: true; the input reads as it did. -/
def frameEncodesUptoRow : OpenClaim := { program := "ytncooadaeifekaa", sum := "af864dd2903ddf85bf34ee24c63dbba4bb31e5e3b6daaca34ae5d44cd81d401f", func := "revetment/revetmentlaw03.FrameEncodes", spec := "frameEncodes", apart := false, narrowed := true }
def FrameEncodesUptoSaid : Prop := frameEncodesUptoRow.holds Try.pinned (OpenSpec.upto frameEncodesSpec)

/-- 'revetmentlaw02.CodecWidths', WHERE WHAT IT READS IS OF BULK AT MOST 1048576: true; the input reads as it did. -/
def codecWidthsUptoRow : OpenClaim := { program := "ytncooadaeifekaa", sum := "af864dd2903ddf85bf34ee24c63dbba4bb31e5e3b6daaca34ae5d44cd81d401f", func := "revetment/revetmentlaw02.CodecWidths", spec := "codecWidths", apart := false, narrowed := true }
def CodecWidthsUptoSaid : Prop := codecWidthsUptoRow.holds Try.pinned (OpenSpec.upto codecWidthsSpec)

/-- 'revetmentlaw01.CrcOpens', WHERE WHAT IT READS IS OF BULK AT MOST 1048576: true; the input reads as it did. -/
def crcOpensUptoRow : OpenClaim := { program := "ytncooadaeifekaa", sum := "af864dd2903ddf85bf34ee24c63dbba4bb31e5e3b6daaca34ae5d44cd81d401f", func := "revetment/revetmentlaw01.CrcOpens", spec := "crcOpens", apart := false, narrowed := true }
def CrcOpensUptoSaid : Prop := crcOpensUptoRow.holds Try.pinned (OpenSpec.upto crcOpensSpec)

/-- 'revetmentlaw03.FrameBound', WHERE WHAT IT READS IS OF BULK AT MOST 1048576: true; the input reads as it did. -/
def frameBoundUptoRow : OpenClaim := { program := "ytncooadaeifekaa", sum := "af864dd2903ddf85bf34ee24c63dbba4bb31e5e3b6daaca34ae5d44cd81d401f", func := "revetment/revetmentlaw03.FrameBound", spec := "frameBound", apart := false, narrowed := true }
def FrameBoundUptoSaid : Prop := frameBoundUptoRow.holds Try.pinned (OpenSpec.upto frameBoundSpec)

/-- 'revetmentlaw02.CodecOwn', WHERE WHAT IT READS IS OF BULK AT MOST 1048576: true; the input reads as it did. -/
def codecOwnUptoRow : OpenClaim := { program := "ytncooadaeifekaa", sum := "af864dd2903ddf85bf34ee24c63dbba4bb31e5e3b6daaca34ae5d44cd81d401f", func := "revetment/revetmentlaw02.CodecOwn", spec := "codecOwn", apart := false, narrowed := true }
def CodecOwnUptoSaid : Prop := codecOwnUptoRow.holds Try.pinned (OpenSpec.upto codecOwnSpec)

/-- 'revetmentlaw01.CrcPatterns', WHERE WHAT IT READS IS OF BULK AT MOST 1048576: true; the input reads as it did. -/
def crcPatternsUptoRow : OpenClaim := { program := "ytncooadaeifekaa", sum := "af864dd2903ddf85bf34ee24c63dbba4bb31e5e3b6daaca34ae5d44cd81d401f", func := "revetment/revetmentlaw01.CrcPatterns", spec := "crcPatterns", apart := false, narrowed := true }
def CrcPatternsUptoSaid : Prop := crcPatternsUptoRow.holds Try.pinned (OpenSpec.upto crcPatternsSpec)

/-- 'revetmentlaw02.CodecNumbers', WHERE WHAT IT READS IS OF BULK AT MOST 1048576: true; the input reads as it did. -/
def codecNumbersUptoRow : OpenClaim := { program := "ytncooadaeifekaa", sum := "af864dd2903ddf85bf34ee24c63dbba4bb31e5e3b6daaca34ae5d44cd81d401f", func := "revetment/revetmentlaw02.CodecNumbers", spec := "codecNumbers", apart := false, narrowed := true }
def CodecNumbersUptoSaid : Prop := codecNumbersUptoRow.holds Try.pinned (OpenSpec.upto codecNumbersSpec)

/-- 'revetmentlaw02.CodecReads', WHERE WHAT IT READS IS OF BULK AT MOST 1048576: true; the input reads as it did. -/
def codecReadsUptoRow : OpenClaim := { program := "ytncooadaeifekaa", sum := "af864dd2903ddf85bf34ee24c63dbba4bb31e5e3b6daaca34ae5d44cd81d401f", func := "revetment/revetmentlaw02.CodecReads", spec := "codecReads", apart := false, narrowed := true }
def CodecReadsUptoSaid : Prop := codecReadsUptoRow.holds Try.pinned (OpenSpec.upto codecReadsSpec)

/-- 'revetmentlaw02.CodecWrites', WHERE WHAT IT READS IS OF BULK AT MOST 1048576: true; the input reads as it did. -/
def codecWritesUptoRow : OpenClaim := { program := "ytncooadaeifekaa", sum := "af864dd2903ddf85bf34ee24c63dbba4bb31e5e3b6daaca34ae5d44cd81d401f", func := "revetment/revetmentlaw02.CodecWrites", spec := "codecWrites", apart := false, narrowed := true }
def CodecWritesUptoSaid : Prop := codecWritesUptoRow.holds Try.pinned (OpenSpec.upto codecWritesSpec)

/-- 'revetmentlaw04.EntryUnlike', WHERE WHAT IT READS IS OF BULK AT MOST 1048576: true; the input reads as it did. -/
def entryUnlikeUptoRow : OpenClaim := { program := "ytncooadaeifekaa", sum := "af864dd2903ddf85bf34ee24c63dbba4bb31e5e3b6daaca34ae5d44cd81d401f", func := "revetment/revetmentlaw04.EntryUnlike", spec := "entryUnlike", apart := false, narrowed := true }
def EntryUnlikeUptoSaid : Prop := entryUnlikeUptoRow.holds Try.pinned (OpenSpec.upto entryUnlikeSpec)

/-- 'revetmentlaw04.EntryGroups', WHERE WHAT IT READS IS OF BULK AT MOST 1048576: true; the input reads as it did. -/
def entryGroupsUptoRow : OpenClaim := { program := "ytncooadaeifekaa", sum := "af864dd2903ddf85bf34ee24c63dbba4bb31e5e3b6daaca34ae5d44cd81d401f", func := "revetment/revetmentlaw04.EntryGroups", spec := "entryGroups", apart := false, narrowed := true }
def EntryGroupsUptoSaid : Prop := entryGroupsUptoRow.holds Try.pinned (OpenSpec.upto entryGroupsSpec)

/-- 'revetmentlaw04.EntryFills', WHERE WHAT IT READS IS OF BULK AT MOST 1048576: true; the input reads as it did. -/
def entryFillsUptoRow : OpenClaim := { program := "ytncooadaeifekaa", sum := "af864dd2903ddf85bf34ee24c63dbba4bb31e5e3b6daaca34ae5d44cd81d401f", func := "revetment/revetmentlaw04.EntryFills", spec := "entryFills", apart := false, narrowed := true }
def EntryFillsUptoSaid : Prop := entryFillsUptoRow.holds Try.pinned (OpenSpec.upto entryFillsSpec)

/-- 'revetmentlaw04.EntryBodies', WHERE WHAT IT READS IS OF BULK AT MOST 1048576: true; the input reads as it did. -/
def entryBodiesUptoRow : OpenClaim := { program := "ytncooadaeifekaa", sum := "af864dd2903ddf85bf34ee24c63dbba4bb31e5e3b6daaca34ae5d44cd81d401f", func := "revetment/revetmentlaw04.EntryBodies", spec := "entryBodies", apart := false, narrowed := true }
def EntryBodiesUptoSaid : Prop := entryBodiesUptoRow.holds Try.pinned (OpenSpec.upto entryBodiesSpec)

/-- 'revetmentlaw04.EntryFrames', WHERE WHAT IT READS IS OF BULK AT MOST 1048576: true; the input reads as it did. -/
def entryFramesUptoRow : OpenClaim := { program := "ytncooadaeifekaa", sum := "af864dd2903ddf85bf34ee24c63dbba4bb31e5e3b6daaca34ae5d44cd81d401f", func := "revetment/revetmentlaw04.EntryFrames", spec := "entryFrames", apart := false, narrowed := true }
def EntryFramesUptoSaid : Prop := entryFramesUptoRow.holds Try.pinned (OpenSpec.upto entryFramesSpec)

/-- 'revetmentlaw04.EntryReads', WHERE WHAT IT READS IS OF BULK AT MOST 1048576: true; the input reads as it did. -/
def entryReadsUptoRow : OpenClaim := { program := "ytncooadaeifekaa", sum := "af864dd2903ddf85bf34ee24c63dbba4bb31e5e3b6daaca34ae5d44cd81d401f", func := "revetment/revetmentlaw04.EntryReads", spec := "entryReads", apart := false, narrowed := true }
def EntryReadsUptoSaid : Prop := entryReadsUptoRow.holds Try.pinned (OpenSpec.upto entryReadsSpec)

/-- 'revetmentlaw03.FrameUnlike', WHERE WHAT IT READS IS OF BULK AT MOST 1048576: true; the input reads as it did. -/
def frameUnlikeUptoRow : OpenClaim := { program := "ytncooadaeifekaa", sum := "af864dd2903ddf85bf34ee24c63dbba4bb31e5e3b6daaca34ae5d44cd81d401f", func := "revetment/revetmentlaw03.FrameUnlike", spec := "frameUnlike", apart := false, narrowed := true }
def FrameUnlikeUptoSaid : Prop := frameUnlikeUptoRow.holds Try.pinned (OpenSpec.upto frameUnlikeSpec)

/-- 'revetmentlaw03.FrameFlips', WHERE WHAT IT READS IS OF BULK AT MOST 1048576: true; the input reads as it did. -/
def frameFlipsUptoRow : OpenClaim := { program := "ytncooadaeifekaa", sum := "af864dd2903ddf85bf34ee24c63dbba4bb31e5e3b6daaca34ae5d44cd81d401f", func := "revetment/revetmentlaw03.FrameFlips", spec := "frameFlips", apart := false, narrowed := true }
def FrameFlipsUptoSaid : Prop := frameFlipsUptoRow.holds Try.pinned (OpenSpec.upto frameFlipsSpec)

/-- 'revetmentlaw03.FrameDecodes', WHERE WHAT IT READS IS OF BULK AT MOST 1048576: true; the input reads as it did. -/
def frameDecodesUptoRow : OpenClaim := { program := "ytncooadaeifekaa", sum := "af864dd2903ddf85bf34ee24c63dbba4bb31e5e3b6daaca34ae5d44cd81d401f", func := "revetment/revetmentlaw03.FrameDecodes", spec := "frameDecodes", apart := false, narrowed := true }
def FrameDecodesUptoSaid : Prop := frameDecodesUptoRow.holds Try.pinned (OpenSpec.upto frameDecodesSpec)

/-- 'revetmentlaw03.FrameSpoilt', WHERE WHAT IT READS IS OF BULK AT MOST 1048576: true; the input reads as it did. -/
def frameSpoiltUptoRow : OpenClaim := { program := "ytncooadaeifekaa", sum := "af864dd2903ddf85bf34ee24c63dbba4bb31e5e3b6daaca34ae5d44cd81d401f", func := "revetment/revetmentlaw03.FrameSpoilt", spec := "frameSpoilt", apart := false, narrowed := true }
def FrameSpoiltUptoSaid : Prop := frameSpoiltUptoRow.holds Try.pinned (OpenSpec.upto frameSpoiltSpec)

end Rows
end Go.Proofs.Ytncooadaeifekaa
