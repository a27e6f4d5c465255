/-
  No cell of these rows narrows 'for every input' (looked for: loops, veiled, ifaces, maps, wideKeys, modest, calm, conditions, laid).
  DERIVED. THE GIVEN ROWS OF THIS SEAT. 11 by the template 'for every input the law returns true; each argument reads behind the call as it read before'; 0 by the template 'total and deterministic' (their statements: YtcjdckoabinndaaTotals.lean).
  GIVEN WITH THE SEED: the statements are not yours to turn. If you find one false, say at which input.
  Laid BY PROGRAM, IN A SANDBOX (cutbox-rows.mjs): the forced cells as the released guide's own fill.sh prints them over the translation 48ea9370ea2f813e… (all of the seat's roots in one cut). By AI agents, Wed Nov 11 2026. No macro, syntax, notation, axiom, sorry.
-/
import Derived.Test.YtcjdckoabinndaaChecked
import GoSem.Claim
import GoSem.ClaimJoined
import GoSem.ClaimMapViews
import Derived.JoinedTies
import Derived.KernelRfl
namespace Go.Proofs.Ytcjdckoabinndaa
/- THE CELL 'sum', in the pinned program and in every row, IS THE sha256 OF THE DUMP (.gsa) THAT YtcjdckoabinndaaProg.lean LOADS. Nothing in Lean hashes anything: it is a label: what it is worth is what the hold of that sum in a sandbox is worth. -/
noncomputable def Try.pinned : Pinned := { name := "ytcjdckoabinndaa", sum := "48ea9370ea2f813eb7f9e092ac6064bb816becb29ef65abe2749495fc10c2ef6", checked := Try.checked }
namespace Rows
def none {H : Type} : Left H := { results := [], args := [] }

/-- 'truchmanlaw20.FidsNews': WHATEVER THE INPUT: true; the input reads as it did. -/
def fidsNewsSpec : ChangeSpec := { name := "fidsNews", fn := fun _ => fun
  | [d] => { results := [.lit (.bool true)], args := [d] }
  | _ => none }
def fidsNewsRow : OpenClaim := { program := "ytcjdckoabinndaa", sum := "48ea9370ea2f813eb7f9e092ac6064bb816becb29ef65abe2749495fc10c2ef6", func := "truchman/truchmanlaw20.FidsNews", spec := "fidsNews", apart := false }
def FidsNewsSaid : Prop := fidsNewsRow.holds Try.pinned (OpenSpec.ofChange fidsNewsSpec)

/-- ITS FALSE NEIGHBOUR: 'it returns false'. Refute it at one input. -/
def fidsNewsWrong : ChangeSpec := { name := "fidsNews", fn := fun _ => fun
  | [d] => { results := [.lit (.bool false)], args := [d] }
  | _ => none }
def FidsNewsWrongFalsely : Prop := fidsNewsRow.holds Try.pinned (OpenSpec.ofChange fidsNewsWrong)

/-- 'truchmanlaw07.MuxOnce': WHATEVER THE INPUT: true; the input reads as it did. -/
def muxOnceSpec : ChangeSpec := { name := "muxOnce", fn := fun _ => fun
  | [d1, d2, d3, d4] => { results := [.lit (.bool true)], args := [d1, d2, d3, d4] }
  | _ => none }
def muxOnceRow : OpenClaim := { program := "ytcjdckoabinndaa", sum := "48ea9370ea2f813eb7f9e092ac6064bb816becb29ef65abe2749495fc10c2ef6", func := "truchman/truchmanlaw07.MuxOnce", spec := "muxOnce", apart := false }
def MuxOnceSaid : Prop := muxOnceRow.holds Try.pinned (OpenSpec.ofChange muxOnceSpec)

/-- ITS FALSE NEIGHBOUR: 'it returns false'. Refute it at one input. -/
def muxOnceWrong : ChangeSpec := { name := "muxOnce", fn := fun _ => fun
  | [d1, d2, d3, d4] => { results := [.lit (.bool false)], args := [d1, d2, d3, d4] }
  | _ => none }
def MuxOnceWrongFalsely : Prop := muxOnceRow.holds Try.pinned (OpenSpec.ofChange muxOnceWrong)

/-- 'truchmanlaw20.FidsFull': WHATEVER THE INPUT: true; the input reads as it did. -/
def fidsFullSpec : ChangeSpec := { name := "fidsFull", fn := fun _ => fun
  | [d1, d2, d3] => { results := [.lit (.bool true)], args := [d1, d2, d3] }
  | _ => none }
def fidsFullRow : OpenClaim := { program := "ytcjdckoabinndaa", sum := "48ea9370ea2f813eb7f9e092ac6064bb816becb29ef65abe2749495fc10c2ef6", func := "truchman/truchmanlaw20.FidsFull", spec := "fidsFull", apart := false }
def FidsFullSaid : Prop := fidsFullRow.holds Try.pinned (OpenSpec.ofChange fidsFullSpec)

/-- ITS FALSE NEIGHBOUR: 'it returns false'. Refute it at one input. -/
def fidsFullWrong : ChangeSpec := { name := "fidsFull", fn := fun _ => fun
  | [d1, d2, d3] => { results := [.lit (.bool false)], args := [d1, d2, d3] }
  | _ => none }
def FidsFullWrongFalsely : Prop := fidsFullRow.holds Try.pinned (OpenSpec.ofChange fidsFullWrong)

/-- 'truchmanlaw07.MuxNews': WHATEVER THE INPUT: true; the input reads as it did. -/
def muxNewsSpec : ChangeSpec := { name := "muxNews", fn := fun _ => fun
  | [d1, d2] => { results := [.lit (.bool true)], args := [d1, d2] }
  | _ => none }
def muxNewsRow : OpenClaim := { program := "ytcjdckoabinndaa", sum := "48ea9370ea2f813eb7f9e092ac6064bb816becb29ef65abe2749495fc10c2ef6", func := "truchman/truchmanlaw07.MuxNews", spec := "muxNews", apart := false }
def MuxNewsSaid : Prop := muxNewsRow.holds Try.pinned (OpenSpec.ofChange muxNewsSpec)

/-- ITS FALSE NEIGHBOUR: 'it returns false'. Refute it at one input. -/
def muxNewsWrong : ChangeSpec := { name := "muxNews", fn := fun _ => fun
  | [d1, d2] => { results := [.lit (.bool false)], args := [d1, d2] }
  | _ => none }
def MuxNewsWrongFalsely : Prop := muxNewsRow.holds Try.pinned (OpenSpec.ofChange muxNewsWrong)

/-- 'truchmanlaw07.MuxRounds': WHATEVER THE INPUT: true; the input reads as it did. -/
def muxRoundsSpec : ChangeSpec := { name := "muxRounds", fn := fun _ => fun
  | [d1, d2] => { results := [.lit (.bool true)], args := [d1, d2] }
  | _ => none }
def muxRoundsRow : OpenClaim := { program := "ytcjdckoabinndaa", sum := "48ea9370ea2f813eb7f9e092ac6064bb816becb29ef65abe2749495fc10c2ef6", func := "truchman/truchmanlaw07.MuxRounds", spec := "muxRounds", apart := false }
def MuxRoundsSaid : Prop := muxRoundsRow.holds Try.pinned (OpenSpec.ofChange muxRoundsSpec)

/-- ITS FALSE NEIGHBOUR: 'it returns false'. Refute it at one input. -/
def muxRoundsWrong : ChangeSpec := { name := "muxRounds", fn := fun _ => fun
  | [d1, d2] => { results := [.lit (.bool false)], args := [d1, d2] }
  | _ => none }
def MuxRoundsWrongFalsely : Prop := muxRoundsRow.holds Try.pinned (OpenSpec.ofChange muxRoundsWrong)

/-- 'truchmanlaw07.MuxSkips': WHATEVER THE INPUT: true; the input reads as it did. -/
def muxSkipsSpec : ChangeSpec := { name := "muxSkips", fn := fun _ => fun
  | [d1, d2, d3] => { results := [.lit (.bool true)], args := [d1, d2, d3] }
  | _ => none }
def muxSkipsRow : OpenClaim := { program := "ytcjdckoabinndaa", sum := "48ea9370ea2f813eb7f9e092ac6064bb816becb29ef65abe2749495fc10c2ef6", func := "truchman/truchmanlaw07.MuxSkips", spec := "muxSkips", apart := false }
def MuxSkipsSaid : Prop := muxSkipsRow.holds Try.pinned (OpenSpec.ofChange muxSkipsSpec)

/-- ITS FALSE NEIGHBOUR: 'it returns false'. Refute it at one input. -/
def muxSkipsWrong : ChangeSpec := { name := "muxSkips", fn := fun _ => fun
  | [d1, d2, d3] => { results := [.lit (.bool false)], args := [d1, d2, d3] }
  | _ => none }
def MuxSkipsWrongFalsely : Prop := muxSkipsRow.holds Try.pinned (OpenSpec.ofChange muxSkipsWrong)

/-- 'truchmanlaw20.FidsApart': WHATEVER THE INPUT: true; the input reads as it did. -/
def fidsApartSpec : ChangeSpec := { name := "fidsApart", fn := fun _ => fun
  | [d1, d2, d3, d4] => { results := [.lit (.bool true)], args := [d1, d2, d3, d4] }
  | _ => none }
def fidsApartRow : OpenClaim := { program := "ytcjdckoabinndaa", sum := "48ea9370ea2f813eb7f9e092ac6064bb816becb29ef65abe2749495fc10c2ef6", func := "truchman/truchmanlaw20.FidsApart", spec := "fidsApart", apart := false }
def FidsApartSaid : Prop := fidsApartRow.holds Try.pinned (OpenSpec.ofChange fidsApartSpec)

/-- ITS FALSE NEIGHBOUR: 'it returns false'. Refute it at one input. -/
def fidsApartWrong : ChangeSpec := { name := "fidsApart", fn := fun _ => fun
  | [d1, d2, d3, d4] => { results := [.lit (.bool false)], args := [d1, d2, d3, d4] }
  | _ => none }
def FidsApartWrongFalsely : Prop := fidsApartRow.holds Try.pinned (OpenSpec.ofChange fidsApartWrong)

/-- 'truchmanlaw07.MuxRows': WHATEVER THE INPUT: true; the input reads as it did. -/
def muxRowsSpec : ChangeSpec := { name := "muxRows", fn := fun _ => fun
  | [d1, d2] => { results := [.lit (.bool true)], args := [d1, d2] }
  | _ => none }
def muxRowsRow : OpenClaim := { program := "ytcjdckoabinndaa", sum := "48ea9370ea2f813eb7f9e092ac6064bb816becb29ef65abe2749495fc10c2ef6", func := "truchman/truchmanlaw07.MuxRows", spec := "muxRows", recurses := true, apart := false }
def MuxRowsSaid : Prop := muxRowsRow.holds Try.pinned (OpenSpec.ofChange muxRowsSpec)

/-- ITS FALSE NEIGHBOUR: 'it returns false'. Refute it at one input. -/
def muxRowsWrong : ChangeSpec := { name := "muxRows", fn := fun _ => fun
  | [d1, d2] => { results := [.lit (.bool false)], args := [d1, d2] }
  | _ => none }
def MuxRowsWrongFalsely : Prop := muxRowsRow.holds Try.pinned (OpenSpec.ofChange muxRowsWrong)

/-- 'truchmanlaw07.MuxPlays': WHATEVER THE INPUT: true; the input reads as it did. -/
def muxPlaysSpec : ChangeSpec := { name := "muxPlays", fn := fun _ => fun
  | [d1, d2, d3, d4] => { results := [.lit (.bool true)], args := [d1, d2, d3, d4] }
  | _ => none }
def muxPlaysRow : OpenClaim := { program := "ytcjdckoabinndaa", sum := "48ea9370ea2f813eb7f9e092ac6064bb816becb29ef65abe2749495fc10c2ef6", func := "truchman/truchmanlaw07.MuxPlays", spec := "muxPlays", recurses := true, apart := false }
def MuxPlaysSaid : Prop := muxPlaysRow.holds Try.pinned (OpenSpec.ofChange muxPlaysSpec)

/-- ITS FALSE NEIGHBOUR: 'it returns false'. Refute it at one input. -/
def muxPlaysWrong : ChangeSpec := { name := "muxPlays", fn := fun _ => fun
  | [d1, d2, d3, d4] => { results := [.lit (.bool false)], args := [d1, d2, d3, d4] }
  | _ => none }
def MuxPlaysWrongFalsely : Prop := muxPlaysRow.holds Try.pinned (OpenSpec.ofChange muxPlaysWrong)

/-- 'truchmanlaw20.FidsRow': WHATEVER THE INPUT: true; the input reads as it did. -/
def fidsRowSpec : ChangeSpec := { name := "fidsRow", fn := fun _ => fun
  | [d] => { results := [.lit (.bool true)], args := [d] }
  | _ => none }
def fidsRowRow : OpenClaim := { program := "ytcjdckoabinndaa", sum := "48ea9370ea2f813eb7f9e092ac6064bb816becb29ef65abe2749495fc10c2ef6", func := "truchman/truchmanlaw20.FidsRow", spec := "fidsRow", unfollowed := true, recurses := true, apart := false }
def FidsRowSaid : Prop := fidsRowRow.holds Try.pinned (OpenSpec.ofChange fidsRowSpec)

/-- ITS FALSE NEIGHBOUR: 'it returns false'. Refute it at one input. -/
def fidsRowWrong : ChangeSpec := { name := "fidsRow", fn := fun _ => fun
  | [d] => { results := [.lit (.bool false)], args := [d] }
  | _ => none }
def FidsRowWrongFalsely : Prop := fidsRowRow.holds Try.pinned (OpenSpec.ofChange fidsRowWrong)

/-- 'truchmanlaw20.FidsPlays': WHATEVER THE INPUT: true; the input reads as it did. -/
def fidsPlaysSpec : ChangeSpec := { name := "fidsPlays", fn := fun _ => fun
  | [d1, d2] => { results := [.lit (.bool true)], args := [d1, d2] }
  | _ => none }
def fidsPlaysRow : OpenClaim := { program := "ytcjdckoabinndaa", sum := "48ea9370ea2f813eb7f9e092ac6064bb816becb29ef65abe2749495fc10c2ef6", func := "truchman/truchmanlaw20.FidsPlays", spec := "fidsPlays", unfollowed := true, recurses := true, apart := false }
def FidsPlaysSaid : Prop := fidsPlaysRow.holds Try.pinned (OpenSpec.ofChange fidsPlaysSpec)

/-- ITS FALSE NEIGHBOUR: 'it returns false'. Refute it at one input. -/
def fidsPlaysWrong : ChangeSpec := { name := "fidsPlays", fn := fun _ => fun
  | [d1, d2] => { results := [.lit (.bool false)], args := [d1, d2] }
  | _ => none }
def FidsPlaysWrongFalsely : Prop := fidsPlaysRow.holds Try.pinned (OpenSpec.ofChange fidsPlaysWrong)

/- THE SECOND FORM. 'bulk': how many values and letters a reading holds, each counted each time it is reached (what is shared counts as often as it is met; a slice's spare places count too). A statement '..UptoSaid' is the law's where the arguments, and the package variables that the reading takes, are together of bulk at most 1048576: NARROWER than '..Said'. Prove '..Said' where nothing that the law and all that it calls make is longer than what came in: it says more and counts as full. Else prove '..UptoSaid'. A law counts once. -/
mutual
def uptoBulk {H : Type} : DataW H → Nat
  | .lit (.string bytes) => bytes.length + 1
  | .lit _ => 1
  | .nil => 1
  | .ptr d => uptoBulk d + 1
  | .slice elems spare => uptoBulkAll elems + uptoBulkAll spare + 1
  | .agg parts => uptoBulkAll parts + 1
  | .iface _ d => uptoBulk d + 1
  | .map entries => uptoBulkEntries entries + 1
  | .held _ => 1
def uptoBulkAll {H : Type} : List (DataW H) → Nat
  | [] => 0
  | d :: r => uptoBulk d + uptoBulkAll r
def uptoBulkEntries {H : Type} : List (Lit × DataW H) → Nat
  | [] => 0
  | x :: r => uptoBulkEntry x + uptoBulkEntries r
def uptoBulkEntry {H : Type} : Lit × DataW H → Nat
  | (.string bytes, d) => bytes.length + uptoBulk d + 1
  | (_, d) => uptoBulk d + 1
 end
def uptoSmall : (H : Type) → List (DataW H) → Bool := fun _ ds => decide (uptoBulkAll ds ≤ 1048576)
def OpenSpec.upto (s : _root_.Go.ChangeSpec) : _root_.Go.OpenSpec := { _root_.Go.OpenSpec.ofChange s with cond := some uptoSmall }

/-- 'truchmanlaw20.FidsNews', WHERE WHAT IT READS IS OF BULK AT MOST 1048576: true; the input reads as it did. -/
def fidsNewsUptoRow : OpenClaim := { program := "ytcjdckoabinndaa", sum := "48ea9370ea2f813eb7f9e092ac6064bb816becb29ef65abe2749495fc10c2ef6", func := "truchman/truchmanlaw20.FidsNews", spec := "fidsNews", apart := false, narrowed := true }
def FidsNewsUptoSaid : Prop := fidsNewsUptoRow.holds Try.pinned (OpenSpec.upto fidsNewsSpec)

/-- 'truchmanlaw07.MuxOnce', WHERE WHAT IT READS IS OF BULK AT MOST 1048576: true; the input reads as it did. -/
def muxOnceUptoRow : OpenClaim := { program := "ytcjdckoabinndaa", sum := "48ea9370ea2f813eb7f9e092ac6064bb816becb29ef65abe2749495fc10c2ef6", func := "truchman/truchmanlaw07.MuxOnce", spec := "muxOnce", apart := false, narrowed := true }
def MuxOnceUptoSaid : Prop := muxOnceUptoRow.holds Try.pinned (OpenSpec.upto muxOnceSpec)

/-- 'truchmanlaw20.FidsFull', WHERE WHAT IT READS IS OF BULK AT MOST 1048576: true; the input reads as it did. -/
def fidsFullUptoRow : OpenClaim := { program := "ytcjdckoabinndaa", sum := "48ea9370ea2f813eb7f9e092ac6064bb816becb29ef65abe2749495fc10c2ef6", func := "truchman/truchmanlaw20.FidsFull", spec := "fidsFull", apart := false, narrowed := true }
def FidsFullUptoSaid : Prop := fidsFullUptoRow.holds Try.pinned (OpenSpec.upto fidsFullSpec)

/-- 'truchmanlaw07.MuxNews', WHERE WHAT IT READS IS OF BULK AT MOST 1048576: true; the input reads as it did. -/
def muxNewsUptoRow : OpenClaim := { program := "ytcjdckoabinndaa", sum := "48ea9370ea2f813eb7f9e092ac6064bb816becb29ef65abe2749495fc10c2ef6", func := "truchman/truchmanlaw07.MuxNews", spec := "muxNews", apart := false, narrowed := true }
def MuxNewsUptoSaid : Prop := muxNewsUptoRow.holds Try.pinned (OpenSpec.upto muxNewsSpec)

/-- 'truchmanlaw07.MuxRounds', WHERE WHAT IT READS IS OF BULK AT MOST 1048576: true; the input reads as it did. -/
def muxRoundsUptoRow : OpenClaim := { program := "ytcjdckoabinndaa", sum := "48ea9370ea2f813eb7f9e092ac6064bb816becb29ef65abe2749495fc10c2ef6", func := "truchman/truchmanlaw07.MuxRounds", spec := "muxRounds", apart := false, narrowed := true }
def MuxRoundsUptoSaid : Prop := muxRoundsUptoRow.holds Try.pinned (OpenSpec.upto muxRoundsSpec)

/-- 'truchmanlaw07.MuxSkips', WHERE WHAT IT READS IS OF BULK AT MOST 1048576: true; the input reads as it did. -/
def muxSkipsUptoRow : OpenClaim := { program := "ytcjdckoabinndaa", sum := "48ea9370ea2f813eb7f9e092ac6064bb816becb29ef65abe2749495fc10c2ef6", func := "truchman/truchmanlaw07.MuxSkips", spec := "muxSkips", apart := false, narrowed := true }
def MuxSkipsUptoSaid : Prop := muxSkipsUptoRow.holds Try.pinned (OpenSpec.upto muxSkipsSpec)

/-- 'truchmanlaw20.FidsApart', WHERE WHAT IT READS IS OF BULK AT MOST 1048576: true; the input reads as it did. -/
def fidsApartUptoRow : OpenClaim := { program := "ytcjdckoabinndaa", sum := "48ea9370ea2f813eb7f9e092ac6064bb816becb29ef65abe2749495fc10c2ef6", func := "truchman/truchmanlaw20.FidsApart", spec := "fidsApart", apart := false, narrowed := true }
def FidsApartUptoSaid : Prop := fidsApartUptoRow.holds Try.pinned (OpenSpec.upto fidsApartSpec)

/-- 'truchmanlaw07.MuxRows', WHERE WHAT IT READS IS OF BULK AT MOST 1048576: true; the input reads as it did. -/
def muxRowsUptoRow : OpenClaim := { program := "ytcjdckoabinndaa", sum := "48ea9370ea2f813eb7f9e092ac6064bb816becb29ef65abe2749495fc10c2ef6", func := "truchman/truchmanlaw07.MuxRows", spec := "muxRows", recurses := true, apart := false, narrowed := true }
def MuxRowsUptoSaid : Prop := muxRowsUptoRow.holds Try.pinned (OpenSpec.upto muxRowsSpec)

/-- 'truchmanlaw07.MuxPlays', WHERE WHAT IT READS IS OF BULK AT MOST 1048576: true; the input reads as it did. -/
def muxPlaysUptoRow : OpenClaim := { program := "ytcjdckoabinndaa", sum := "48ea9370ea2f813eb7f9e092ac6064bb816becb29ef65abe2749495fc10c2ef6", func := "truchman/truchmanlaw07.MuxPlays", spec := "muxPlays", recurses := true, apart := false, narrowed := true }
def MuxPlaysUptoSaid : Prop := muxPlaysUptoRow.holds Try.pinned (OpenSpec.upto muxPlaysSpec)

/-- 'truchmanlaw20.FidsRow', WHERE WHAT IT READS IS OF BULK AT MOST 1048576: true; the input reads as it did. -/
def fidsRowUptoRow : OpenClaim := { program := "ytcjdckoabinndaa", sum := "48ea9370ea2f813eb7f9e092ac6064bb816becb29ef65abe2749495fc10c2ef6", func := "truchman/truchmanlaw20.FidsRow", spec := "fidsRow", unfollowed := true, recurses := true, apart := false, narrowed := true }
def FidsRowUptoSaid : Prop := fidsRowUptoRow.holds Try.pinned (OpenSpec.upto fidsRowSpec)

/-- 'truchmanlaw20.FidsPlays', WHERE WHAT IT READS IS OF BULK AT MOST 1048576: true; the input reads as it did. -/
def fidsPlaysUptoRow : OpenClaim := { program := "ytcjdckoabinndaa", sum := "48ea9370ea2f813eb7f9e092ac6064bb816becb29ef65abe2749495fc10c2ef6", func := "truchman/truchmanlaw20.FidsPlays", spec := "fidsPlays", unfollowed := true, recurses := true, apart := false, narrowed := true }
def FidsPlaysUptoSaid : Prop := fidsPlaysUptoRow.holds Try.pinned (OpenSpec.upto fidsPlaysSpec)

end Rows
end Go.Proofs.Ytcjdckoabinndaa
