/-
  No cell of these rows narrows 'for every input' (looked for: loops, veiled, ifaces, maps, wideKeys, modest, calm, conditions, laid).
  DERIVED. THE GIVEN ROWS OF THIS SEAT. 17 by the template 'for every input the law returns true; each argument reads behind the call as it read before'; 0 by the template 'total and deterministic' (their statements: YtlpcbfndjffpfaaTotals.lean).
  GIVEN WITH THE SEED: the statements are not yours to turn. If you find one false, say at which input.
  Laid BY PROGRAM, IN A SANDBOX (cutbox-rows.mjs): the forced cells as the released guide's own fill.sh prints them over the translation 60f8a34805e79144… (all of the seat's roots in one cut). By AI agents, Wed Nov 11 2026. No macro, syntax, notation, axiom, sorry.
-/
import Derived.Test.YtlpcbfndjffpfaaChecked
import GoSem.Claim
import GoSem.ClaimJoined
import GoSem.ClaimMapViews
import Derived.JoinedTies
import Derived.KernelRfl
namespace Go.Proofs.Ytlpcbfndjffpfaa
/- THE CELL 'sum', in the pinned program and in every row, IS THE sha256 OF THE DUMP (.gsa) THAT YtlpcbfndjffpfaaProg.lean LOADS. Nothing in Lean hashes anything: it is a label: what it is worth is what the hold of that sum in a sandbox is worth. -/
noncomputable def Try.pinned : Pinned := { name := "ytlpcbfndjffpfaa", sum := "60f8a34805e7914404f8366552834a1bd5032dc81733db6470b8f2e01cf38a2c", checked := Try.checked }
namespace Rows
def none {H : Type} : Left H := { results := [], args := [] }

/-- 'truchmanlaw02.LittlePuts': WHATEVER THE INPUT: true; the input reads as it did. -/
def littlePutsSpec : ChangeSpec := { name := "littlePuts", fn := fun _ => fun
  | [d1, d2, d3, d4, d5] => { results := [.lit (.bool true)], args := [d1, d2, d3, d4, d5] }
  | _ => none }
def littlePutsRow : OpenClaim := { program := "ytlpcbfndjffpfaa", sum := "60f8a34805e7914404f8366552834a1bd5032dc81733db6470b8f2e01cf38a2c", func := "truchman/truchmanlaw02.LittlePuts", spec := "littlePuts", apart := false }
def LittlePutsSaid : Prop := littlePutsRow.holds Try.pinned (OpenSpec.ofChange littlePutsSpec)

/-- ITS FALSE NEIGHBOUR: 'it returns false'. Refute it at one input. -/
def littlePutsWrong : ChangeSpec := { name := "littlePuts", fn := fun _ => fun
  | [d1, d2, d3, d4, d5] => { results := [.lit (.bool false)], args := [d1, d2, d3, d4, d5] }
  | _ => none }
def LittlePutsWrongFalsely : Prop := littlePutsRow.holds Try.pinned (OpenSpec.ofChange littlePutsWrong)

/-- 'truchmanlaw02.LittleReads': WHATEVER THE INPUT: true; the input reads as it did. -/
def littleReadsSpec : ChangeSpec := { name := "littleReads", fn := fun _ => fun
  | [d1, d2] => { results := [.lit (.bool true)], args := [d1, d2] }
  | _ => none }
def littleReadsRow : OpenClaim := { program := "ytlpcbfndjffpfaa", sum := "60f8a34805e7914404f8366552834a1bd5032dc81733db6470b8f2e01cf38a2c", func := "truchman/truchmanlaw02.LittleReads", spec := "littleReads", apart := false }
def LittleReadsSaid : Prop := littleReadsRow.holds Try.pinned (OpenSpec.ofChange littleReadsSpec)

/-- ITS FALSE NEIGHBOUR: 'it returns false'. Refute it at one input. -/
def littleReadsWrong : ChangeSpec := { name := "littleReads", fn := fun _ => fun
  | [d1, d2] => { results := [.lit (.bool false)], args := [d1, d2] }
  | _ => none }
def LittleReadsWrongFalsely : Prop := littleReadsRow.holds Try.pinned (OpenSpec.ofChange littleReadsWrong)

/-- 'truchmanlaw02.LittleSplits': WHATEVER THE INPUT: true; the input reads as it did. -/
def littleSplitsSpec : ChangeSpec := { name := "littleSplits", fn := fun _ => fun
  | [d1, d2, d3] => { results := [.lit (.bool true)], args := [d1, d2, d3] }
  | _ => none }
def littleSplitsRow : OpenClaim := { program := "ytlpcbfndjffpfaa", sum := "60f8a34805e7914404f8366552834a1bd5032dc81733db6470b8f2e01cf38a2c", func := "truchman/truchmanlaw02.LittleSplits", spec := "littleSplits", apart := false }
def LittleSplitsSaid : Prop := littleSplitsRow.holds Try.pinned (OpenSpec.ofChange littleSplitsSpec)

/-- ITS FALSE NEIGHBOUR: 'it returns false'. Refute it at one input. -/
def littleSplitsWrong : ChangeSpec := { name := "littleSplits", fn := fun _ => fun
  | [d1, d2, d3] => { results := [.lit (.bool false)], args := [d1, d2, d3] }
  | _ => none }
def LittleSplitsWrongFalsely : Prop := littleSplitsRow.holds Try.pinned (OpenSpec.ofChange littleSplitsWrong)

/-- 'truchmanlaw02.LittlePieces': WHATEVER THE INPUT: true; the input reads as it did. -/
def littlePiecesSpec : ChangeSpec := { name := "littlePieces", fn := fun _ => fun
  | [d1, d2, d3] => { results := [.lit (.bool true)], args := [d1, d2, d3] }
  | _ => none }
def littlePiecesRow : OpenClaim := { program := "ytlpcbfndjffpfaa", sum := "60f8a34805e7914404f8366552834a1bd5032dc81733db6470b8f2e01cf38a2c", func := "truchman/truchmanlaw02.LittlePieces", spec := "littlePieces", apart := false }
def LittlePiecesSaid : Prop := littlePiecesRow.holds Try.pinned (OpenSpec.ofChange littlePiecesSpec)

/-- ITS FALSE NEIGHBOUR: 'it returns false'. Refute it at one input. -/
def littlePiecesWrong : ChangeSpec := { name := "littlePieces", fn := fun _ => fun
  | [d1, d2, d3] => { results := [.lit (.bool false)], args := [d1, d2, d3] }
  | _ => none }
def LittlePiecesWrongFalsely : Prop := littlePiecesRow.holds Try.pinned (OpenSpec.ofChange littlePiecesWrong)

/-- 'truchmanlaw02.LittleRound': WHATEVER THE INPUT: true; the input reads as it did. -/
def littleRoundSpec : ChangeSpec := { name := "littleRound", fn := fun _ => fun
  | [d1, d2] => { results := [.lit (.bool true)], args := [d1, d2] }
  | _ => none }
def littleRoundRow : OpenClaim := { program := "ytlpcbfndjffpfaa", sum := "60f8a34805e7914404f8366552834a1bd5032dc81733db6470b8f2e01cf38a2c", func := "truchman/truchmanlaw02.LittleRound", spec := "littleRound", apart := false }
def LittleRoundSaid : Prop := littleRoundRow.holds Try.pinned (OpenSpec.ofChange littleRoundSpec)

/-- ITS FALSE NEIGHBOUR: 'it returns false'. Refute it at one input. -/
def littleRoundWrong : ChangeSpec := { name := "littleRound", fn := fun _ => fun
  | [d1, d2] => { results := [.lit (.bool false)], args := [d1, d2] }
  | _ => none }
def LittleRoundWrongFalsely : Prop := littleRoundRow.holds Try.pinned (OpenSpec.ofChange littleRoundWrong)

/-- 'truchmanlaw17.AskMay': WHATEVER THE INPUT: true; the input reads as it did. -/
def askMaySpec : ChangeSpec := { name := "askMay", fn := fun _ => fun
  | [d1, d2, d3, d4] => { results := [.lit (.bool true)], args := [d1, d2, d3, d4] }
  | _ => none }
def askMayRow : OpenClaim := { program := "ytlpcbfndjffpfaa", sum := "60f8a34805e7914404f8366552834a1bd5032dc81733db6470b8f2e01cf38a2c", func := "truchman/truchmanlaw17.AskMay", spec := "askMay", unfollowed := true, recurses := true, apart := false }
def AskMaySaid : Prop := askMayRow.holds Try.pinned (OpenSpec.ofChange askMaySpec)

/-- ITS FALSE NEIGHBOUR: 'it returns false'. Refute it at one input. -/
def askMayWrong : ChangeSpec := { name := "askMay", fn := fun _ => fun
  | [d1, d2, d3, d4] => { results := [.lit (.bool false)], args := [d1, d2, d3, d4] }
  | _ => none }
def AskMayWrongFalsely : Prop := askMayRow.holds Try.pinned (OpenSpec.ofChange askMayWrong)

/-- 'truchmanlaw17.AskBounds': WHATEVER THE INPUT: true; the input reads as it did. -/
def askBoundsSpec : ChangeSpec := { name := "askBounds", fn := fun _ => fun
  | [d1, d2, d3] => { results := [.lit (.bool true)], args := [d1, d2, d3] }
  | _ => none }
def askBoundsRow : OpenClaim := { program := "ytlpcbfndjffpfaa", sum := "60f8a34805e7914404f8366552834a1bd5032dc81733db6470b8f2e01cf38a2c", func := "truchman/truchmanlaw17.AskBounds", spec := "askBounds", unfollowed := true, recurses := true, apart := false }
def AskBoundsSaid : Prop := askBoundsRow.holds Try.pinned (OpenSpec.ofChange askBoundsSpec)

/-- ITS FALSE NEIGHBOUR: 'it returns false'. Refute it at one input. -/
def askBoundsWrong : ChangeSpec := { name := "askBounds", fn := fun _ => fun
  | [d1, d2, d3] => { results := [.lit (.bool false)], args := [d1, d2, d3] }
  | _ => none }
def AskBoundsWrongFalsely : Prop := askBoundsRow.holds Try.pinned (OpenSpec.ofChange askBoundsWrong)

/-- 'truchmanlaw17.AskSame': WHATEVER THE INPUT: true; the input reads as it did. -/
def askSameSpec : ChangeSpec := { name := "askSame", fn := fun _ => fun
  | [d1, d2, d3, d4, d5] => { results := [.lit (.bool true)], args := [d1, d2, d3, d4, d5] }
  | _ => none }
def askSameRow : OpenClaim := { program := "ytlpcbfndjffpfaa", sum := "60f8a34805e7914404f8366552834a1bd5032dc81733db6470b8f2e01cf38a2c", func := "truchman/truchmanlaw17.AskSame", spec := "askSame", unfollowed := true, recurses := true, apart := false }
def AskSameSaid : Prop := askSameRow.holds Try.pinned (OpenSpec.ofChange askSameSpec)

/-- ITS FALSE NEIGHBOUR: 'it returns false'. Refute it at one input. -/
def askSameWrong : ChangeSpec := { name := "askSame", fn := fun _ => fun
  | [d1, d2, d3, d4, d5] => { results := [.lit (.bool false)], args := [d1, d2, d3, d4, d5] }
  | _ => none }
def AskSameWrongFalsely : Prop := askSameRow.holds Try.pinned (OpenSpec.ofChange askSameWrong)

/-- 'truchmanlaw18.TellMay': WHATEVER THE INPUT: true; the input reads as it did. -/
def tellMaySpec : ChangeSpec := { name := "tellMay", fn := fun _ => fun
  | [d1, d2, d3, d4] => { results := [.lit (.bool true)], args := [d1, d2, d3, d4] }
  | _ => none }
def tellMayRow : OpenClaim := { program := "ytlpcbfndjffpfaa", sum := "60f8a34805e7914404f8366552834a1bd5032dc81733db6470b8f2e01cf38a2c", func := "truchman/truchmanlaw18.TellMay", spec := "tellMay", unfollowed := true, recurses := true, apart := false }
def TellMaySaid : Prop := tellMayRow.holds Try.pinned (OpenSpec.ofChange tellMaySpec)

/-- ITS FALSE NEIGHBOUR: 'it returns false'. Refute it at one input. -/
def tellMayWrong : ChangeSpec := { name := "tellMay", fn := fun _ => fun
  | [d1, d2, d3, d4] => { results := [.lit (.bool false)], args := [d1, d2, d3, d4] }
  | _ => none }
def TellMayWrongFalsely : Prop := tellMayRow.holds Try.pinned (OpenSpec.ofChange tellMayWrong)

/-- 'truchmanlaw18.TellBounds': WHATEVER THE INPUT: true; the input reads as it did. -/
def tellBoundsSpec : ChangeSpec := { name := "tellBounds", fn := fun _ => fun
  | [d1, d2, d3] => { results := [.lit (.bool true)], args := [d1, d2, d3] }
  | _ => none }
def tellBoundsRow : OpenClaim := { program := "ytlpcbfndjffpfaa", sum := "60f8a34805e7914404f8366552834a1bd5032dc81733db6470b8f2e01cf38a2c", func := "truchman/truchmanlaw18.TellBounds", spec := "tellBounds", unfollowed := true, recurses := true, apart := false }
def TellBoundsSaid : Prop := tellBoundsRow.holds Try.pinned (OpenSpec.ofChange tellBoundsSpec)

/-- ITS FALSE NEIGHBOUR: 'it returns false'. Refute it at one input. -/
def tellBoundsWrong : ChangeSpec := { name := "tellBounds", fn := fun _ => fun
  | [d1, d2, d3] => { results := [.lit (.bool false)], args := [d1, d2, d3] }
  | _ => none }
def TellBoundsWrongFalsely : Prop := tellBoundsRow.holds Try.pinned (OpenSpec.ofChange tellBoundsWrong)

/-- 'truchmanlaw18.TellSame': WHATEVER THE INPUT: true; the input reads as it did. -/
def tellSameSpec : ChangeSpec := { name := "tellSame", fn := fun _ => fun
  | [d1, d2, d3, d4, d5] => { results := [.lit (.bool true)], args := [d1, d2, d3, d4, d5] }
  | _ => none }
def tellSameRow : OpenClaim := { program := "ytlpcbfndjffpfaa", sum := "60f8a34805e7914404f8366552834a1bd5032dc81733db6470b8f2e01cf38a2c", func := "truchman/truchmanlaw18.TellSame", spec := "tellSame", unfollowed := true, recurses := true, apart := false }
def TellSameSaid : Prop := tellSameRow.holds Try.pinned (OpenSpec.ofChange tellSameSpec)

/-- ITS FALSE NEIGHBOUR: 'it returns false'. Refute it at one input. -/
def tellSameWrong : ChangeSpec := { name := "tellSame", fn := fun _ => fun
  | [d1, d2, d3, d4, d5] => { results := [.lit (.bool false)], args := [d1, d2, d3, d4, d5] }
  | _ => none }
def TellSameWrongFalsely : Prop := tellSameRow.holds Try.pinned (OpenSpec.ofChange tellSameWrong)

/-- 'truchmanlaw18.TellRoom': WHATEVER THE INPUT: true; the input reads as it did. -/
def tellRoomSpec : ChangeSpec := { name := "tellRoom", fn := fun _ => fun
  | [d1, d2, d3] => { results := [.lit (.bool true)], args := [d1, d2, d3] }
  | _ => none }
def tellRoomRow : OpenClaim := { program := "ytlpcbfndjffpfaa", sum := "60f8a34805e7914404f8366552834a1bd5032dc81733db6470b8f2e01cf38a2c", func := "truchman/truchmanlaw18.TellRoom", spec := "tellRoom", unfollowed := true, recurses := true, apart := false }
def TellRoomSaid : Prop := tellRoomRow.holds Try.pinned (OpenSpec.ofChange tellRoomSpec)

/-- ITS FALSE NEIGHBOUR: 'it returns false'. Refute it at one input. -/
def tellRoomWrong : ChangeSpec := { name := "tellRoom", fn := fun _ => fun
  | [d1, d2, d3] => { results := [.lit (.bool false)], args := [d1, d2, d3] }
  | _ => none }
def TellRoomWrongFalsely : Prop := tellRoomRow.holds Try.pinned (OpenSpec.ofChange tellRoomWrong)

/-- 'truchmanlaw17.AskReads': WHATEVER THE INPUT: true; the input reads as it did. -/
def askReadsSpec : ChangeSpec := { name := "askReads", fn := fun _ => fun
  | [d1, d2, d3, d4] => { results := [.lit (.bool true)], args := [d1, d2, d3, d4] }
  | _ => none }
def askReadsRow : OpenClaim := { program := "ytlpcbfndjffpfaa", sum := "60f8a34805e7914404f8366552834a1bd5032dc81733db6470b8f2e01cf38a2c", func := "truchman/truchmanlaw17.AskReads", spec := "askReads", unfollowed := true, recurses := true, apart := false }
def AskReadsSaid : Prop := askReadsRow.holds Try.pinned (OpenSpec.ofChange askReadsSpec)

/-- ITS FALSE NEIGHBOUR: 'it returns false'. Refute it at one input. -/
def askReadsWrong : ChangeSpec := { name := "askReads", fn := fun _ => fun
  | [d1, d2, d3, d4] => { results := [.lit (.bool false)], args := [d1, d2, d3, d4] }
  | _ => none }
def AskReadsWrongFalsely : Prop := askReadsRow.holds Try.pinned (OpenSpec.ofChange askReadsWrong)

/-- 'truchmanlaw17.AskRound': WHATEVER THE INPUT: true; the input reads as it did. -/
def askRoundSpec : ChangeSpec := { name := "askRound", fn := fun _ => fun
  | [d] => { results := [.lit (.bool true)], args := [d] }
  | _ => none }
def askRoundRow : OpenClaim := { program := "ytlpcbfndjffpfaa", sum := "60f8a34805e7914404f8366552834a1bd5032dc81733db6470b8f2e01cf38a2c", func := "truchman/truchmanlaw17.AskRound", spec := "askRound", unfollowed := true, recurses := true, apart := false }
def AskRoundSaid : Prop := askRoundRow.holds Try.pinned (OpenSpec.ofChange askRoundSpec)

/-- ITS FALSE NEIGHBOUR: 'it returns false'. Refute it at one input. -/
def askRoundWrong : ChangeSpec := { name := "askRound", fn := fun _ => fun
  | [d] => { results := [.lit (.bool false)], args := [d] }
  | _ => none }
def AskRoundWrongFalsely : Prop := askRoundRow.holds Try.pinned (OpenSpec.ofChange askRoundWrong)

/-- 'truchmanlaw18.TellReads': WHATEVER THE INPUT: true; the input reads as it did. -/
def tellReadsSpec : ChangeSpec := { name := "tellReads", fn := fun _ => fun
  | [d1, d2, d3, d4] => { results := [.lit (.bool true)], args := [d1, d2, d3, d4] }
  | _ => none }
def tellReadsRow : OpenClaim := { program := "ytlpcbfndjffpfaa", sum := "60f8a34805e7914404f8366552834a1bd5032dc81733db6470b8f2e01cf38a2c", func := "truchman/truchmanlaw18.TellReads", spec := "tellReads", unfollowed := true, recurses := true, apart := false }
def TellReadsSaid : Prop := tellReadsRow.holds Try.pinned (OpenSpec.ofChange tellReadsSpec)

/-- ITS FALSE NEIGHBOUR: 'it returns false'. Refute it at one input. -/
def tellReadsWrong : ChangeSpec := { name := "tellReads", fn := fun _ => fun
  | [d1, d2, d3, d4] => { results := [.lit (.bool false)], args := [d1, d2, d3, d4] }
  | _ => none }
def TellReadsWrongFalsely : Prop := tellReadsRow.holds Try.pinned (OpenSpec.ofChange tellReadsWrong)

/-- 'truchmanlaw18.TellRound': WHATEVER THE INPUT: true; the input reads as it did. -/
def tellRoundSpec : ChangeSpec := { name := "tellRound", fn := fun _ => fun
  | [d] => { results := [.lit (.bool true)], args := [d] }
  | _ => none }
def tellRoundRow : OpenClaim := { program := "ytlpcbfndjffpfaa", sum := "60f8a34805e7914404f8366552834a1bd5032dc81733db6470b8f2e01cf38a2c", func := "truchman/truchmanlaw18.TellRound", spec := "tellRound", unfollowed := true, recurses := true, apart := false }
def TellRoundSaid : Prop := tellRoundRow.holds Try.pinned (OpenSpec.ofChange tellRoundSpec)

/-- ITS FALSE NEIGHBOUR: 'it returns false'. Refute it at one input. -/
def tellRoundWrong : ChangeSpec := { name := "tellRound", fn := fun _ => fun
  | [d] => { results := [.lit (.bool false)], args := [d] }
  | _ => none }
def TellRoundWrongFalsely : Prop := tellRoundRow.holds Try.pinned (OpenSpec.ofChange tellRoundWrong)

/-- 'truchmanlaw18.TellErrors': WHATEVER THE INPUT: true; the input reads as it did. -/
def tellErrorsSpec : ChangeSpec := { name := "tellErrors", fn := fun _ => fun
  | [d1, d2] => { results := [.lit (.bool true)], args := [d1, d2] }
  | _ => none }
def tellErrorsRow : OpenClaim := { program := "ytlpcbfndjffpfaa", sum := "60f8a34805e7914404f8366552834a1bd5032dc81733db6470b8f2e01cf38a2c", func := "truchman/truchmanlaw18.TellErrors", spec := "tellErrors", unfollowed := true, recurses := true, apart := false }
def TellErrorsSaid : Prop := tellErrorsRow.holds Try.pinned (OpenSpec.ofChange tellErrorsSpec)

/-- ITS FALSE NEIGHBOUR: 'it returns false'. Refute it at one input. -/
def tellErrorsWrong : ChangeSpec := { name := "tellErrors", fn := fun _ => fun
  | [d1, d2] => { results := [.lit (.bool false)], args := [d1, d2] }
  | _ => none }
def TellErrorsWrongFalsely : Prop := tellErrorsRow.holds Try.pinned (OpenSpec.ofChange tellErrorsWrong)

/- THE SECOND FORM. 'bulk': how many values and letters a reading holds, each counted each time it is reached (what is shared counts as often as it is met; a slice's spare places count too). A statement '..UptoSaid' is the law's where the arguments, and the package variables that the reading takes, are together of bulk at most 1048576: NARROWER than '..Said'. Prove '..Said' where nothing that the law and all that it calls make is longer than what came in: it says more and counts as full. Else prove '..UptoSaid'. A law counts once. -/
mutual
def uptoBulk {H : Type} : DataW H → Nat
  | .lit (.string bytes) => bytes.length + 1
  | .lit _ => 1
  | .nil => 1
  | .ptr d => uptoBulk d + 1
  | .slice elems spare => uptoBulkAll elems + uptoBulkAll spare + 1
  | .agg parts => uptoBulkAll parts + 1
  | .iface _ d => uptoBulk d + 1
  | .map entries => uptoBulkEntries entries + 1
  | .held _ => 1
def uptoBulkAll {H : Type} : List (DataW H) → Nat
  | [] => 0
  | d :: r => uptoBulk d + uptoBulkAll r
def uptoBulkEntries {H : Type} : List (Lit × DataW H) → Nat
  | [] => 0
  | x :: r => uptoBulkEntry x + uptoBulkEntries r
def uptoBulkEntry {H : Type} : Lit × DataW H → Nat
  | (.string bytes, d) => bytes.length + uptoBulk d + 1
  | (_, d) => uptoBulk d + 1
 end
def uptoSmall : (H : Type) → List (DataW H) → Bool := fun _ ds => decide (uptoBulkAll ds ≤ 1048576)
def OpenSpec.upto (s : _root_.Go.ChangeSpec) : _root_.Go.OpenSpec := { _root_.Go.OpenSpec.ofChange s with cond := some uptoSmall }

/-- 'truchmanlaw02.LittlePuts', WHERE WHAT IT READS IS OF BULK AT MOST 1048576: true; the input reads as it did. -/
def littlePutsUptoRow : OpenClaim := { program := "ytlpcbfndjffpfaa", sum := "60f8a34805e7914404f8366552834a1bd5032dc81733db6470b8f2e01cf38a2c", func := "truchman/truchmanlaw02.LittlePuts", spec := "littlePuts", apart := false, narrowed := true }
def LittlePutsUptoSaid : Prop := littlePutsUptoRow.holds Try.pinned (OpenSpec.upto littlePutsSpec)

/-- 'truchmanlaw02.LittleReads', WHERE WHAT IT READS IS OF BULK AT MOST 1048576: true; the input reads as it did. -/
def littleReadsUptoRow : OpenClaim := { program := "ytlpcbfndjffpfaa", sum := "60f8a34805e7914404f8366552834a1bd5032dc81733db6470b8f2e01cf38a2c", func := "truchman/truchmanlaw02.LittleReads", spec := "littleReads", apart := false, narrowed := true }
def LittleReadsUptoSaid : Prop := littleReadsUptoRow.holds Try.pinned (OpenSpec.upto littleReadsSpec)

/-- 'truchmanlaw02.LittleSplits', WHERE WHAT IT READS IS OF BULK AT MOST 1048576: true; the input reads as it did. -/
def littleSplitsUptoRow : OpenClaim := { program := "ytlpcbfndjffpfaa", sum := "60f8a34805e7914404f8366552834a1bd5032dc81733db6470b8f2e01cf38a2c", func := "truchman/truchmanlaw02.LittleSplits", spec := "littleSplits", apart := false, narrowed := true }
def LittleSplitsUptoSaid : Prop := littleSplitsUptoRow.holds Try.pinned (OpenSpec.upto littleSplitsSpec)

/-- 'truchmanlaw02.LittlePieces', WHERE WHAT IT READS IS OF BULK AT MOST 1048576: true; the input reads as it did. -/
def littlePiecesUptoRow : OpenClaim := { program := "ytlpcbfndjffpfaa", sum := "60f8a34805e7914404f8366552834a1bd5032dc81733db6470b8f2e01cf38a2c", func := "truchman/truchmanlaw02.LittlePieces", spec := "littlePieces", apart := false, narrowed := true }
def LittlePiecesUptoSaid : Prop := littlePiecesUptoRow.holds Try.pinned (OpenSpec.upto littlePiecesSpec)

/-- 'truchmanlaw02.LittleRound', WHERE WHAT IT READS IS OF BULK AT MOST 1048576: true; the input reads as it did. -/
def littleRoundUptoRow : OpenClaim := { program := "ytlpcbfndjffpfaa", sum := "60f8a34805e7914404f8366552834a1bd5032dc81733db6470b8f2e01cf38a2c", func := "truchman/truchmanlaw02.LittleRound", spec := "littleRound", apart := false, narrowed := true }
def LittleRoundUptoSaid : Prop := littleRoundUptoRow.holds Try.pinned (OpenSpec.upto littleRoundSpec)

/-- 'truchmanlaw17.AskMay', WHERE WHAT IT READS IS OF BULK AT MOST 1048576: true; the input reads as it did. -/
def askMayUptoRow : OpenClaim := { program := "ytlpcbfndjffpfaa", sum := "60f8a34805e7914404f8366552834a1bd5032dc81733db6470b8f2e01cf38a2c", func := "truchman/truchmanlaw17.AskMay", spec := "askMay", unfollowed := true, recurses := true, apart := false, narrowed := true }
def AskMayUptoSaid : Prop := askMayUptoRow.holds Try.pinned (OpenSpec.upto askMaySpec)

/-- 'truchmanlaw17.AskBounds', WHERE WHAT IT READS IS OF BULK AT MOST 1048576: true; the input reads as it did. -/
def askBoundsUptoRow : OpenClaim := { program := "ytlpcbfndjffpfaa", sum := "60f8a34805e7914404f8366552834a1bd5032dc81733db6470b8f2e01cf38a2c", func := "truchman/truchmanlaw17.AskBounds", spec := "askBounds", unfollowed := true, recurses := true, apart := false, narrowed := true }
def AskBoundsUptoSaid : Prop := askBoundsUptoRow.holds Try.pinned (OpenSpec.upto askBoundsSpec)

/-- 'truchmanlaw17.AskSame', WHERE WHAT IT READS IS OF BULK AT MOST 1048576: true; the input reads as it did. -/
def askSameUptoRow : OpenClaim := { program := "ytlpcbfndjffpfaa", sum := "60f8a34805e7914404f8366552834a1bd5032dc81733db6470b8f2e01cf38a2c", func := "truchman/truchmanlaw17.AskSame", spec := "askSame", unfollowed := true, recurses := true, apart := false, narrowed := true }
def AskSameUptoSaid : Prop := askSameUptoRow.holds Try.pinned (OpenSpec.upto askSameSpec)

/-- 'truchmanlaw18.TellMay', WHERE WHAT IT READS IS OF BULK AT MOST 1048576: true; the input reads as it did. -/
def tellMayUptoRow : OpenClaim := { program := "ytlpcbfndjffpfaa", sum := "60f8a34805e7914404f8366552834a1bd5032dc81733db6470b8f2e01cf38a2c", func := "truchman/truchmanlaw18.TellMay", spec := "tellMay", unfollowed := true, recurses := true, apart := false, narrowed := true }
def TellMayUptoSaid : Prop := tellMayUptoRow.holds Try.pinned (OpenSpec.upto tellMaySpec)

/-- 'truchmanlaw18.TellBounds', WHERE WHAT IT READS IS OF BULK AT MOST 1048576: true; the input reads as it did. -/
def tellBoundsUptoRow : OpenClaim := { program := "ytlpcbfndjffpfaa", sum := "60f8a34805e7914404f8366552834a1bd5032dc81733db6470b8f2e01cf38a2c", func := "truchman/truchmanlaw18.TellBounds", spec := "tellBounds", unfollowed := true, recurses := true, apart := false, narrowed := true }
def TellBoundsUptoSaid : Prop := tellBoundsUptoRow.holds Try.pinned (OpenSpec.upto tellBoundsSpec)

/-- 'truchmanlaw18.TellSame', WHERE WHAT IT READS IS OF BULK AT MOST 1048576: true; the input reads as it did. -/
def tellSameUptoRow : OpenClaim := { program := "ytlpcbfndjffpfaa", sum := "60f8a34805e7914404f8366552834a1bd5032dc81733db6470b8f2e01cf38a2c", func := "truchman/truchmanlaw18.TellSame", spec := "tellSame", unfollowed := true, recurses := true, apart := false, narrowed := true }
def TellSameUptoSaid : Prop := tellSameUptoRow.holds Try.pinned (OpenSpec.upto tellSameSpec)

/-- 'truchmanlaw18.TellRoom', WHERE WHAT IT READS IS OF BULK AT MOST 1048576: true; the input reads as it did. -/
def tellRoomUptoRow : OpenClaim := { program := "ytlpcbfndjffpfaa", sum := "60f8a34805e7914404f8366552834a1bd5032dc81733db6470b8f2e01cf38a2c", func := "truchman/truchmanlaw18.TellRoom", spec := "tellRoom", unfollowed := true, recurses := true, apart := false, narrowed := true }
def TellRoomUptoSaid : Prop := tellRoomUptoRow.holds Try.pinned (OpenSpec.upto tellRoomSpec)

/-- 'truchmanlaw17.AskReads', WHERE WHAT IT READS IS OF BULK AT MOST 1048576: true; the input reads as it did. -/
def askReadsUptoRow : OpenClaim := { program := "ytlpcbfndjffpfaa", sum := "60f8a34805e7914404f8366552834a1bd5032dc81733db6470b8f2e01cf38a2c", func := "truchman/truchmanlaw17.AskReads", spec := "askReads", unfollowed := true, recurses := true, apart := false, narrowed := true }
def AskReadsUptoSaid : Prop := askReadsUptoRow.holds Try.pinned (OpenSpec.upto askReadsSpec)

/-- 'truchmanlaw17.AskRound', WHERE WHAT IT READS IS OF BULK AT MOST 1048576: true; the input reads as it did. -/
def askRoundUptoRow : OpenClaim := { program := "ytlpcbfndjffpfaa", sum := "60f8a34805e7914404f8366552834a1bd5032dc81733db6470b8f2e01cf38a2c", func := "truchman/truchmanlaw17.AskRound", spec := "askRound", unfollowed := true, recurses := true, apart := false, narrowed := true }
def AskRoundUptoSaid : Prop := askRoundUptoRow.holds Try.pinned (OpenSpec.upto askRoundSpec)

/-- 'truchmanlaw18.TellReads', WHERE WHAT IT READS IS OF BULK AT MOST 1048576: true; the input reads as it did. -/
def tellReadsUptoRow : OpenClaim := { program := "ytlpcbfndjffpfaa", sum := "60f8a34805e7914404f8366552834a1bd5032dc81733db6470b8f2e01cf38a2c", func := "truchman/truchmanlaw18.TellReads", spec := "tellReads", unfollowed := true, recurses := true, apart := false, narrowed := true }
def TellReadsUptoSaid : Prop := tellReadsUptoRow.holds Try.pinned (OpenSpec.upto tellReadsSpec)

/-- 'truchmanlaw18.TellRound', WHERE WHAT IT READS IS OF BULK AT MOST 1048576: true; the input reads as it did. -/
def tellRoundUptoRow : OpenClaim := { program := "ytlpcbfndjffpfaa", sum := "60f8a34805e7914404f8366552834a1bd5032dc81733db6470b8f2e01cf38a2c", func := "truchman/truchmanlaw18.TellRound", spec := "tellRound", unfollowed := true, recurses := true, apart := false, narrowed := true }
def TellRoundUptoSaid : Prop := tellRoundUptoRow.holds Try.pinned (OpenSpec.upto tellRoundSpec)

/-- 'truchmanlaw18.TellErrors', WHERE WHAT IT READS IS OF BULK AT MOST 1048576: true; the input reads as it did. -/
def tellErrorsUptoRow : OpenClaim := { program := "ytlpcbfndjffpfaa", sum := "60f8a34805e7914404f8366552834a1bd5032dc81733db6470b8f2e01cf38a2c", func := "truchman/truchmanlaw18.TellErrors", spec := "tellErrors", unfollowed := true, recurses := true, apart := false, narrowed := true }
def TellErrorsUptoSaid : Prop := tellErrorsUptoRow.holds Try.pinned (OpenSpec.upto tellErrorsSpec)

end Rows
end Go.Proofs.Ytlpcbfndjffpfaa
