/-
  No cell of these rows narrows 'for every input' (looked for: loops, veiled, ifaces, maps, wideKeys, modest, calm, conditions, laid).
  DERIVED. THE GIVEN ROWS OF THIS SEAT. 9 by the template 'for every input the law returns true; each argument reads behind the call as it read before'; 0 by the template 'total and deterministic' (their statements: YtomjagibcdneiaaTotals.lean).
  GIVEN WITH THE SEED: the statements are not yours to turn. If you find one false, say at which input.
  Laid BY PROGRAM, IN A SANDBOX (cutbox-rows.mjs): the forced cells as the released guide's own fill.sh prints them over the translation 8337cf1b6d065b1d… (all of the seat's roots in one cut). By AI agents, Wed Nov 11 2026. No macro, syntax, notation, axiom, sorry.
-/
import Derived.Test.YtomjagibcdneiaaChecked
import GoSem.Claim
import GoSem.ClaimJoined
import GoSem.ClaimMapViews
import Derived.JoinedTies
import Derived.KernelRfl
namespace Go.Proofs.Ytomjagibcdneiaa
/- THE CELL 'sum', in the pinned program and in every row, IS THE sha256 OF THE DUMP (.gsa) THAT YtomjagibcdneiaaProg.lean LOADS. Nothing in Lean hashes anything: it is a label: what it is worth is what the hold of that sum in a sandbox is worth. -/
noncomputable def Try.pinned : Pinned := { name := "ytomjagibcdneiaa", sum := "8337cf1b6d065b1d70b45f43225f44075433cf4f2de10f80ace9cffee6054cdc", checked := Try.checked }
namespace Rows
def none {H : Type} : Left H := { results := [], args := [] }

/-- 'garblerlaw05.RencLikely': WHATEVER THE INPUT: true; the input reads as it did. -/
def rencLikelySpec : ChangeSpec := { name := "rencLikely", fn := fun _ => fun
  | [d] => { results := [.lit (.bool true)], args := [d] }
  | _ => none }
def rencLikelyRow : OpenClaim := { program := "ytomjagibcdneiaa", sum := "8337cf1b6d065b1d70b45f43225f44075433cf4f2de10f80ace9cffee6054cdc", func := "garbler/garblerlaw05.RencLikely", spec := "rencLikely", apart := false }
def RencLikelySaid : Prop := rencLikelyRow.holds Try.pinned (OpenSpec.ofChange rencLikelySpec)

/-- ITS FALSE NEIGHBOUR: 'it returns false'. Refute it at one input. -/
def rencLikelyWrong : ChangeSpec := { name := "rencLikely", fn := fun _ => fun
  | [d] => { results := [.lit (.bool false)], args := [d] }
  | _ => none }
def RencLikelyWrongFalsely : Prop := rencLikelyRow.holds Try.pinned (OpenSpec.ofChange rencLikelyWrong)

/-- 'garblerlaw05.RencCodes': WHATEVER THE INPUT: true; the input reads as it did. -/
def rencCodesSpec : ChangeSpec := { name := "rencCodes", fn := fun _ => fun
  | [d1, d2] => { results := [.lit (.bool true)], args := [d1, d2] }
  | _ => none }
def rencCodesRow : OpenClaim := { program := "ytomjagibcdneiaa", sum := "8337cf1b6d065b1d70b45f43225f44075433cf4f2de10f80ace9cffee6054cdc", func := "garbler/garblerlaw05.RencCodes", spec := "rencCodes", apart := false }
def RencCodesSaid : Prop := rencCodesRow.holds Try.pinned (OpenSpec.ofChange rencCodesSpec)

/-- ITS FALSE NEIGHBOUR: 'it returns false'. Refute it at one input. -/
def rencCodesWrong : ChangeSpec := { name := "rencCodes", fn := fun _ => fun
  | [d1, d2] => { results := [.lit (.bool false)], args := [d1, d2] }
  | _ => none }
def RencCodesWrongFalsely : Prop := rencCodesRow.holds Try.pinned (OpenSpec.ofChange rencCodesWrong)

/-- 'garblerlaw05.RencFirst': WHATEVER THE INPUT: true; the input reads as it did. -/
def rencFirstSpec : ChangeSpec := { name := "rencFirst", fn := fun _ => fun
  | [d] => { results := [.lit (.bool true)], args := [d] }
  | _ => none }
def rencFirstRow : OpenClaim := { program := "ytomjagibcdneiaa", sum := "8337cf1b6d065b1d70b45f43225f44075433cf4f2de10f80ace9cffee6054cdc", func := "garbler/garblerlaw05.RencFirst", spec := "rencFirst", apart := false }
def RencFirstSaid : Prop := rencFirstRow.holds Try.pinned (OpenSpec.ofChange rencFirstSpec)

/-- ITS FALSE NEIGHBOUR: 'it returns false'. Refute it at one input. -/
def rencFirstWrong : ChangeSpec := { name := "rencFirst", fn := fun _ => fun
  | [d] => { results := [.lit (.bool false)], args := [d] }
  | _ => none }
def RencFirstWrongFalsely : Prop := rencFirstRow.holds Try.pinned (OpenSpec.ofChange rencFirstWrong)

/-- 'garblerlaw04.RdecBounds': WHATEVER THE INPUT: true; the input reads as it did. -/
def rdecBoundsSpec : ChangeSpec := { name := "rdecBounds", fn := fun _ => fun
  | [d1, d2] => { results := [.lit (.bool true)], args := [d1, d2] }
  | _ => none }
def rdecBoundsRow : OpenClaim := { program := "ytomjagibcdneiaa", sum := "8337cf1b6d065b1d70b45f43225f44075433cf4f2de10f80ace9cffee6054cdc", func := "garbler/garblerlaw04.RdecBounds", spec := "rdecBounds", unfollowed := true, recurses := true, apart := false }
def RdecBoundsSaid : Prop := rdecBoundsRow.holds Try.pinned (OpenSpec.ofChange rdecBoundsSpec)

/-- ITS FALSE NEIGHBOUR: 'it returns false'. Refute it at one input. -/
def rdecBoundsWrong : ChangeSpec := { name := "rdecBounds", fn := fun _ => fun
  | [d1, d2] => { results := [.lit (.bool false)], args := [d1, d2] }
  | _ => none }
def RdecBoundsWrongFalsely : Prop := rdecBoundsRow.holds Try.pinned (OpenSpec.ofChange rdecBoundsWrong)

/-- 'garblerlaw04.RdecBehind': WHATEVER THE INPUT: true; the input reads as it did. -/
def rdecBehindSpec : ChangeSpec := { name := "rdecBehind", fn := fun _ => fun
  | [d1, d2, d3] => { results := [.lit (.bool true)], args := [d1, d2, d3] }
  | _ => none }
def rdecBehindRow : OpenClaim := { program := "ytomjagibcdneiaa", sum := "8337cf1b6d065b1d70b45f43225f44075433cf4f2de10f80ace9cffee6054cdc", func := "garbler/garblerlaw04.RdecBehind", spec := "rdecBehind", unfollowed := true, recurses := true, apart := false }
def RdecBehindSaid : Prop := rdecBehindRow.holds Try.pinned (OpenSpec.ofChange rdecBehindSpec)

/-- ITS FALSE NEIGHBOUR: 'it returns false'. Refute it at one input. -/
def rdecBehindWrong : ChangeSpec := { name := "rdecBehind", fn := fun _ => fun
  | [d1, d2, d3] => { results := [.lit (.bool false)], args := [d1, d2, d3] }
  | _ => none }
def RdecBehindWrongFalsely : Prop := rdecBehindRow.holds Try.pinned (OpenSpec.ofChange rdecBehindWrong)

/-- 'garblerlaw04.RdecBad': WHATEVER THE INPUT: true; the input reads as it did. -/
def rdecBadSpec : ChangeSpec := { name := "rdecBad", fn := fun _ => fun
  | [d1, d2, d3] => { results := [.lit (.bool true)], args := [d1, d2, d3] }
  | _ => none }
def rdecBadRow : OpenClaim := { program := "ytomjagibcdneiaa", sum := "8337cf1b6d065b1d70b45f43225f44075433cf4f2de10f80ace9cffee6054cdc", func := "garbler/garblerlaw04.RdecBad", spec := "rdecBad", unfollowed := true, recurses := true, apart := false }
def RdecBadSaid : Prop := rdecBadRow.holds Try.pinned (OpenSpec.ofChange rdecBadSpec)

/-- ITS FALSE NEIGHBOUR: 'it returns false'. Refute it at one input. -/
def rdecBadWrong : ChangeSpec := { name := "rdecBad", fn := fun _ => fun
  | [d1, d2, d3] => { results := [.lit (.bool false)], args := [d1, d2, d3] }
  | _ => none }
def RdecBadWrongFalsely : Prop := rdecBadRow.holds Try.pinned (OpenSpec.ofChange rdecBadWrong)

/-- 'garblerlaw04.RdecZeros': WHATEVER THE INPUT: true; the input reads as it did. -/
def rdecZerosSpec : ChangeSpec := { name := "rdecZeros", fn := fun _ => fun
  | [d] => { results := [.lit (.bool true)], args := [d] }
  | _ => none }
def rdecZerosRow : OpenClaim := { program := "ytomjagibcdneiaa", sum := "8337cf1b6d065b1d70b45f43225f44075433cf4f2de10f80ace9cffee6054cdc", func := "garbler/garblerlaw04.RdecZeros", spec := "rdecZeros", unfollowed := true, recurses := true, apart := false }
def RdecZerosSaid : Prop := rdecZerosRow.holds Try.pinned (OpenSpec.ofChange rdecZerosSpec)

/-- ITS FALSE NEIGHBOUR: 'it returns false'. Refute it at one input. -/
def rdecZerosWrong : ChangeSpec := { name := "rdecZeros", fn := fun _ => fun
  | [d] => { results := [.lit (.bool false)], args := [d] }
  | _ => none }
def RdecZerosWrongFalsely : Prop := rdecZerosRow.holds Try.pinned (OpenSpec.ofChange rdecZerosWrong)

/-- 'garblerlaw04.RdecPlays': WHATEVER THE INPUT: true; the input reads as it did. -/
def rdecPlaysSpec : ChangeSpec := { name := "rdecPlays", fn := fun _ => fun
  | [d1, d2] => { results := [.lit (.bool true)], args := [d1, d2] }
  | _ => none }
def rdecPlaysRow : OpenClaim := { program := "ytomjagibcdneiaa", sum := "8337cf1b6d065b1d70b45f43225f44075433cf4f2de10f80ace9cffee6054cdc", func := "garbler/garblerlaw04.RdecPlays", spec := "rdecPlays", unfollowed := true, recurses := true, apart := false }
def RdecPlaysSaid : Prop := rdecPlaysRow.holds Try.pinned (OpenSpec.ofChange rdecPlaysSpec)

/-- ITS FALSE NEIGHBOUR: 'it returns false'. Refute it at one input. -/
def rdecPlaysWrong : ChangeSpec := { name := "rdecPlays", fn := fun _ => fun
  | [d1, d2] => { results := [.lit (.bool false)], args := [d1, d2] }
  | _ => none }
def RdecPlaysWrongFalsely : Prop := rdecPlaysRow.holds Try.pinned (OpenSpec.ofChange rdecPlaysWrong)

/-- 'garblerlaw05.RencBack': WHATEVER THE INPUT: true; the input reads as it did. -/
def rencBackSpec : ChangeSpec := { name := "rencBack", fn := fun _ => fun
  | [d1, d2] => { results := [.lit (.bool true)], args := [d1, d2] }
  | _ => none }
def rencBackRow : OpenClaim := { program := "ytomjagibcdneiaa", sum := "8337cf1b6d065b1d70b45f43225f44075433cf4f2de10f80ace9cffee6054cdc", func := "garbler/garblerlaw05.RencBack", spec := "rencBack", unfollowed := true, recurses := true, apart := false }
def RencBackSaid : Prop := rencBackRow.holds Try.pinned (OpenSpec.ofChange rencBackSpec)

/-- ITS FALSE NEIGHBOUR: 'it returns false'. Refute it at one input. -/
def rencBackWrong : ChangeSpec := { name := "rencBack", fn := fun _ => fun
  | [d1, d2] => { results := [.lit (.bool false)], args := [d1, d2] }
  | _ => none }
def RencBackWrongFalsely : Prop := rencBackRow.holds Try.pinned (OpenSpec.ofChange rencBackWrong)

/- THE SECOND FORM. 'bulk': how many values and letters a reading holds, each counted each time it is reached (what is shared counts as often as it is met; a slice's spare places count too). A statement '..UptoSaid' is the law's where the arguments, and the package variables that the reading takes, are together of bulk at most 1048576: NARROWER than '..Said'. Prove '..Said' where nothing that the law and all that it calls make is longer than what came in: it says more and counts as full. Else prove '..UptoSaid'. A law counts once. -/
mutual
def uptoBulk {H : Type} : DataW H → Nat
  | .lit (.string bytes) => bytes.length + 1
  | .lit _ => 1
  | .nil => 1
  | .ptr d => uptoBulk d + 1
  | .slice elems spare => uptoBulkAll elems + uptoBulkAll spare + 1
  | .agg parts => uptoBulkAll parts + 1
  | .iface _ d => uptoBulk d + 1
  | .map entries => uptoBulkEntries entries + 1
  | .held _ => 1
def uptoBulkAll {H : Type} : List (DataW H) → Nat
  | [] => 0
  | d :: r => uptoBulk d + uptoBulkAll r
def uptoBulkEntries {H : Type} : List (Lit × DataW H) → Nat
  | [] => 0
  | x :: r => uptoBulkEntry x + uptoBulkEntries r
def uptoBulkEntry {H : Type} : Lit × DataW H → Nat
  | (.string bytes, d) => bytes.length + uptoBulk d + 1
  | (_, d) => uptoBulk d + 1
 end
def uptoSmall : (H : Type) → List (DataW H) → Bool := fun _ ds => decide (uptoBulkAll ds ≤ 1048576)
def OpenSpec.upto (s : _root_.Go.ChangeSpec) : _root_.Go.OpenSpec := { _root_.Go.OpenSpec.ofChange s with cond := some uptoSmall }

/-- 'garblerlaw05.RencLikely', WHERE WHAT IT READS IS OF BULK AT MOST 1048576: true; the input reads as it did. -/
def rencLikelyUptoRow : OpenClaim := { program := "ytomjagibcdneiaa", sum := "8337cf1b6d065b1d70b45f43225f44075433cf4f2de10f80ace9cffee6054cdc", func := "garbler/garblerlaw05.RencLikely", spec := "rencLikely", apart := false, narrowed := true }
def RencLikelyUptoSaid : Prop := rencLikelyUptoRow.holds Try.pinned (OpenSpec.upto rencLikelySpec)

/-- 'garblerlaw05.RencCodes', WHERE WHAT IT READS IS OF BULK AT MOST 1048576: true; the input reads as it did. -/
def rencCodesUptoRow : OpenClaim := { program := "ytomjagibcdneiaa", sum := "8337cf1b6d065b1d70b45f43225f44075433cf4f2de10f80ace9cffee6054cdc", func := "garbler/garblerlaw05.RencCodes", spec := "rencCodes", apart := false, narrowed := true }
def RencCodesUptoSaid : Prop := rencCodesUptoRow.holds Try.pinned (OpenSpec.upto rencCodesSpec)

/-- 'garblerlaw05.RencFirst', WHERE WHAT IT READS IS OF BULK AT MOST 1048576: true; the input reads as it did. -/
def rencFirstUptoRow : OpenClaim := { program := "ytomjagibcdneiaa", sum := "8337cf1b6d065b1d70b45f43225f44075433cf4f2de10f80ace9cffee6054cdc", func := "garbler/garblerlaw05.RencFirst", spec := "rencFirst", apart := false, narrowed := true }
def RencFirstUptoSaid : Prop := rencFirstUptoRow.holds Try.pinned (OpenSpec.upto rencFirstSpec)

/-- 'garblerlaw04.RdecBounds', WHERE WHAT IT READS IS OF BULK AT MOST 1048576: true; the input reads as it did. -/
def rdecBoundsUptoRow : OpenClaim := { program := "ytomjagibcdneiaa", sum := "8337cf1b6d065b1d70b45f43225f44075433cf4f2de10f80ace9cffee6054cdc", func := "garbler/garblerlaw04.RdecBounds", spec := "rdecBounds", unfollowed := true, recurses := true, apart := false, narrowed := true }
def RdecBoundsUptoSaid : Prop := rdecBoundsUptoRow.holds Try.pinned (OpenSpec.upto rdecBoundsSpec)

/-- 'garblerlaw04.RdecBehind', WHERE WHAT IT READS IS OF BULK AT MOST 1048576: true; the input reads as it did. -/
def rdecBehindUptoRow : OpenClaim := { program := "ytomjagibcdneiaa", sum := "8337cf1b6d065b1d70b45f43225f44075433cf4f2de10f80ace9cffee6054cdc", func := "garbler/garblerlaw04.RdecBehind", spec := "rdecBehind", unfollowed := true, recurses := true, apart := false, narrowed := true }
def RdecBehindUptoSaid : Prop := rdecBehindUptoRow.holds Try.pinned (OpenSpec.upto rdecBehindSpec)

/-- 'garblerlaw04.RdecBad', WHERE WHAT IT READS IS OF BULK AT MOST 1048576: true; the input reads as it did. -/
def rdecBadUptoRow : OpenClaim := { program := "ytomjagibcdneiaa", sum := "8337cf1b6d065b1d70b45f43225f44075433cf4f2de10f80ace9cffee6054cdc", func := "garbler/garblerlaw04.RdecBad", spec := "rdecBad", unfollowed := true, recurses := true, apart := false, narrowed := true }
def RdecBadUptoSaid : Prop := rdecBadUptoRow.holds Try.pinned (OpenSpec.upto rdecBadSpec)

/-- 'garblerlaw04.RdecZeros', WHERE WHAT IT READS IS OF BULK AT MOST 1048576: true; the input reads as it did. -/
def rdecZerosUptoRow : OpenClaim := { program := "ytomjagibcdneiaa", sum := "8337cf1b6d065b1d70b45f43225f44075433cf4f2de10f80ace9cffee6054cdc", func := "garbler/garblerlaw04.RdecZeros", spec := "rdecZeros", unfollowed := true, recurses := true, apart := false, narrowed := true }
def RdecZerosUptoSaid : Prop := rdecZerosUptoRow.holds Try.pinned (OpenSpec.upto rdecZerosSpec)

/-- 'garblerlaw04.RdecPlays', WHERE WHAT IT READS IS OF BULK AT MOST 1048576: true; the input reads as it did. -/
def rdecPlaysUptoRow : OpenClaim := { program := "ytomjagibcdneiaa", sum := "8337cf1b6d065b1d70b45f43225f44075433cf4f2de10f80ace9cffee6054cdc", func := "garbler/garblerlaw04.RdecPlays", spec := "rdecPlays", unfollowed := true, recurses := true, apart := false, narrowed := true }
def RdecPlaysUptoSaid : Prop := rdecPlaysUptoRow.holds Try.pinned (OpenSpec.upto rdecPlaysSpec)

/-- 'garblerlaw05.RencBack', WHERE WHAT IT READS IS OF BULK AT MOST 1048576: true; the input reads as it did. -/
def rencBackUptoRow : OpenClaim := { program := "ytomjagibcdneiaa", sum := "8337cf1b6d065b1d70b45f43225f44075433cf4f2de10f80ace9cffee6054cdc", func := "garbler/garblerlaw05.RencBack", spec := "rencBack", unfollowed := true, recurses := true, apart := false, narrowed := true }
def RencBackUptoSaid : Prop := rencBackUptoRow.holds Try.pinned (OpenSpec.upto rencBackSpec)

end Rows
end Go.Proofs.Ytomjagibcdneiaa
