/-
  No cell of these rows narrows 'for every input' (looked for: loops, veiled, ifaces, maps, wideKeys, modest, calm, conditions, laid).
  DERIVED. THE GIVEN ROWS OF THIS SEAT. 8 by the template 'for every input the law returns true; each argument reads behind the call as it read before'; 0 by the template 'total and deterministic' (their statements: YtfedllfpgalalaaTotals.lean).
  GIVEN WITH THE SEED: the statements are not yours to turn. If you find one false, say at which input.
  Laid BY PROGRAM, IN A SANDBOX (cutbox-rows.mjs): the forced cells as the released guide's own fill.sh prints them over the translation e26e4147cd689581… (all of the seat's roots in one cut). By AI agents, Wed Nov 11 2026. No macro, syntax, notation, axiom, sorry.
-/
import Derived.Test.YtfedllfpgalalaaChecked
import GoSem.Claim
import GoSem.ClaimJoined
import GoSem.ClaimMapViews
import Derived.JoinedTies
import Derived.KernelRfl
namespace Go.Proofs.Ytfedllfpgalalaa
/- THE CELL 'sum', in the pinned program and in every row, IS THE sha256 OF THE DUMP (.gsa) THAT YtfedllfpgalalaaProg.lean LOADS. Nothing in Lean hashes anything: it is a label: what it is worth is what the hold of that sum in a sandbox is worth. -/
noncomputable def Try.pinned : Pinned := { name := "ytfedllfpgalalaa", sum := "e26e4147cd68958163851a192b176175684dafda94220d8fcf02aabb3147b753", checked := Try.checked }
namespace Rows
def none {H : Type} : Left H := { results := [], args := [] }

/-- 'garblerlaw13.DeltaBack': WHATEVER THE INPUT: true; the input reads as it did. -/
def deltaBackSpec : ChangeSpec := { name := "deltaBack", fn := fun _ => fun
  | [d1, d2] => { results := [.lit (.bool true)], args := [d1, d2] }
  | _ => none }
def deltaBackRow : OpenClaim := { program := "ytfedllfpgalalaa", sum := "e26e4147cd68958163851a192b176175684dafda94220d8fcf02aabb3147b753", func := "garbler/garblerlaw13.DeltaBack", spec := "deltaBack", apart := false }
def DeltaBackSaid : Prop := deltaBackRow.holds Try.pinned (OpenSpec.ofChange deltaBackSpec)

/-- ITS FALSE NEIGHBOUR: 'it returns false'. Refute it at one input. -/
def deltaBackWrong : ChangeSpec := { name := "deltaBack", fn := fun _ => fun
  | [d1, d2] => { results := [.lit (.bool false)], args := [d1, d2] }
  | _ => none }
def DeltaBackWrongFalsely : Prop := deltaBackRow.holds Try.pinned (OpenSpec.ofChange deltaBackWrong)

/-- 'garblerlaw13.DeltaFlat': WHATEVER THE INPUT: true; the input reads as it did. -/
def deltaFlatSpec : ChangeSpec := { name := "deltaFlat", fn := fun _ => fun
  | [d1, d2] => { results := [.lit (.bool true)], args := [d1, d2] }
  | _ => none }
def deltaFlatRow : OpenClaim := { program := "ytfedllfpgalalaa", sum := "e26e4147cd68958163851a192b176175684dafda94220d8fcf02aabb3147b753", func := "garbler/garblerlaw13.DeltaFlat", spec := "deltaFlat", apart := false }
def DeltaFlatSaid : Prop := deltaFlatRow.holds Try.pinned (OpenSpec.ofChange deltaFlatSpec)

/-- ITS FALSE NEIGHBOUR: 'it returns false'. Refute it at one input. -/
def deltaFlatWrong : ChangeSpec := { name := "deltaFlat", fn := fun _ => fun
  | [d1, d2] => { results := [.lit (.bool false)], args := [d1, d2] }
  | _ => none }
def DeltaFlatWrongFalsely : Prop := deltaFlatRow.holds Try.pinned (OpenSpec.ofChange deltaFlatWrong)

/-- 'garblerlaw13.DeltaSides': WHATEVER THE INPUT: true; the input reads as it did. -/
def deltaSidesSpec : ChangeSpec := { name := "deltaSides", fn := fun _ => fun
  | [d1, d2] => { results := [.lit (.bool true)], args := [d1, d2] }
  | _ => none }
def deltaSidesRow : OpenClaim := { program := "ytfedllfpgalalaa", sum := "e26e4147cd68958163851a192b176175684dafda94220d8fcf02aabb3147b753", func := "garbler/garblerlaw13.DeltaSides", spec := "deltaSides", apart := false }
def DeltaSidesSaid : Prop := deltaSidesRow.holds Try.pinned (OpenSpec.ofChange deltaSidesSpec)

/-- ITS FALSE NEIGHBOUR: 'it returns false'. Refute it at one input. -/
def deltaSidesWrong : ChangeSpec := { name := "deltaSides", fn := fun _ => fun
  | [d1, d2] => { results := [.lit (.bool false)], args := [d1, d2] }
  | _ => none }
def DeltaSidesWrongFalsely : Prop := deltaSidesRow.holds Try.pinned (OpenSpec.ofChange deltaSidesWrong)

/-- 'garblerlaw13.DeltaProps': WHATEVER THE INPUT: true; the input reads as it did. -/
def deltaPropsSpec : ChangeSpec := { name := "deltaProps", fn := fun _ => fun
  | [d] => { results := [.lit (.bool true)], args := [d] }
  | _ => none }
def deltaPropsRow : OpenClaim := { program := "ytfedllfpgalalaa", sum := "e26e4147cd68958163851a192b176175684dafda94220d8fcf02aabb3147b753", func := "garbler/garblerlaw13.DeltaProps", spec := "deltaProps", apart := false }
def DeltaPropsSaid : Prop := deltaPropsRow.holds Try.pinned (OpenSpec.ofChange deltaPropsSpec)

/-- ITS FALSE NEIGHBOUR: 'it returns false'. Refute it at one input. -/
def deltaPropsWrong : ChangeSpec := { name := "deltaProps", fn := fun _ => fun
  | [d] => { results := [.lit (.bool false)], args := [d] }
  | _ => none }
def DeltaPropsWrongFalsely : Prop := deltaPropsRow.holds Try.pinned (OpenSpec.ofChange deltaPropsWrong)

/-- 'garblerlaw14.BcjSides': WHATEVER THE INPUT: true; the input reads as it did. -/
def bcjSidesSpec : ChangeSpec := { name := "bcjSides", fn := fun _ => fun
  | [d] => { results := [.lit (.bool true)], args := [d] }
  | _ => none }
def bcjSidesRow : OpenClaim := { program := "ytfedllfpgalalaa", sum := "e26e4147cd68958163851a192b176175684dafda94220d8fcf02aabb3147b753", func := "garbler/garblerlaw14.BcjSides", spec := "bcjSides", apart := false }
def BcjSidesSaid : Prop := bcjSidesRow.holds Try.pinned (OpenSpec.ofChange bcjSidesSpec)

/-- ITS FALSE NEIGHBOUR: 'it returns false'. Refute it at one input. -/
def bcjSidesWrong : ChangeSpec := { name := "bcjSides", fn := fun _ => fun
  | [d] => { results := [.lit (.bool false)], args := [d] }
  | _ => none }
def BcjSidesWrongFalsely : Prop := bcjSidesRow.holds Try.pinned (OpenSpec.ofChange bcjSidesWrong)

/-- 'garblerlaw14.BcjBack': WHATEVER THE INPUT: true; the input reads as it did. -/
def bcjBackSpec : ChangeSpec := { name := "bcjBack", fn := fun _ => fun
  | [d] => { results := [.lit (.bool true)], args := [d] }
  | _ => none }
def bcjBackRow : OpenClaim := { program := "ytfedllfpgalalaa", sum := "e26e4147cd68958163851a192b176175684dafda94220d8fcf02aabb3147b753", func := "garbler/garblerlaw14.BcjBack", spec := "bcjBack", apart := false }
def BcjBackSaid : Prop := bcjBackRow.holds Try.pinned (OpenSpec.ofChange bcjBackSpec)

/-- ITS FALSE NEIGHBOUR: 'it returns false'. Refute it at one input. -/
def bcjBackWrong : ChangeSpec := { name := "bcjBack", fn := fun _ => fun
  | [d] => { results := [.lit (.bool false)], args := [d] }
  | _ => none }
def BcjBackWrongFalsely : Prop := bcjBackRow.holds Try.pinned (OpenSpec.ofChange bcjBackWrong)

/-- 'garblerlaw14.BcjStays': WHATEVER THE INPUT: true; the input reads as it did. -/
def bcjStaysSpec : ChangeSpec := { name := "bcjStays", fn := fun _ => fun
  | [d] => { results := [.lit (.bool true)], args := [d] }
  | _ => none }
def bcjStaysRow : OpenClaim := { program := "ytfedllfpgalalaa", sum := "e26e4147cd68958163851a192b176175684dafda94220d8fcf02aabb3147b753", func := "garbler/garblerlaw14.BcjStays", spec := "bcjStays", apart := false }
def BcjStaysSaid : Prop := bcjStaysRow.holds Try.pinned (OpenSpec.ofChange bcjStaysSpec)

/-- ITS FALSE NEIGHBOUR: 'it returns false'. Refute it at one input. -/
def bcjStaysWrong : ChangeSpec := { name := "bcjStays", fn := fun _ => fun
  | [d] => { results := [.lit (.bool false)], args := [d] }
  | _ => none }
def BcjStaysWrongFalsely : Prop := bcjStaysRow.holds Try.pinned (OpenSpec.ofChange bcjStaysWrong)

/-- 'garblerlaw14.BcjCall': WHATEVER THE INPUT: true; the input reads as it did. -/
def bcjCallSpec : ChangeSpec := { name := "bcjCall", fn := fun _ => fun
  | [d1, d2, d3] => { results := [.lit (.bool true)], args := [d1, d2, d3] }
  | _ => none }
def bcjCallRow : OpenClaim := { program := "ytfedllfpgalalaa", sum := "e26e4147cd68958163851a192b176175684dafda94220d8fcf02aabb3147b753", func := "garbler/garblerlaw14.BcjCall", spec := "bcjCall", apart := false }
def BcjCallSaid : Prop := bcjCallRow.holds Try.pinned (OpenSpec.ofChange bcjCallSpec)

/-- ITS FALSE NEIGHBOUR: 'it returns false'. Refute it at one input. -/
def bcjCallWrong : ChangeSpec := { name := "bcjCall", fn := fun _ => fun
  | [d1, d2, d3] => { results := [.lit (.bool false)], args := [d1, d2, d3] }
  | _ => none }
def BcjCallWrongFalsely : Prop := bcjCallRow.holds Try.pinned (OpenSpec.ofChange bcjCallWrong)

/- THE SECOND FORM. 'bulk': how many values and letters a reading holds, each counted each time it is reached (what is shared counts as often as it is met; a slice's spare places count too). A statement '..UptoSaid' is the law's where the arguments, and the package variables that the reading takes, are together of bulk at most 1048576: NARROWER than '..Said'. Prove '..Said' where nothing that the law and all that it calls make is longer than what came in: it says more and counts as full. Else prove '..UptoSaid'. A law counts once. -/
mutual
def uptoBulk {H : Type} : DataW H → Nat
  | .lit (.string bytes) => bytes.length + 1
  | .lit _ => 1
  | .nil => 1
  | .ptr d => uptoBulk d + 1
  | .slice elems spare => uptoBulkAll elems + uptoBulkAll spare + 1
  | .agg parts => uptoBulkAll parts + 1
  | .iface _ d => uptoBulk d + 1
  | .map entries => uptoBulkEntries entries + 1
  | .held _ => 1
def uptoBulkAll {H : Type} : List (DataW H) → Nat
  | [] => 0
  | d :: r => uptoBulk d + uptoBulkAll r
def uptoBulkEntries {H : Type} : List (Lit × DataW H) → Nat
  | [] => 0
  | x :: r => uptoBulkEntry x + uptoBulkEntries r
def uptoBulkEntry {H : Type} : Lit × DataW H → Nat
  | (.string bytes, d) => bytes.length + uptoBulk d + 1
  | (_, d) => uptoBulk d + 1
 end
def uptoSmall : (H : Type) → List (DataW H) → Bool := fun _ ds => decide (uptoBulkAll ds ≤ 1048576)
def OpenSpec.upto (s : _root_.Go.ChangeSpec) : _root_.Go.OpenSpec := { _root_.Go.OpenSpec.ofChange s with cond := some uptoSmall }

/-- 'garblerlaw13.DeltaBack', WHERE WHAT IT READS IS OF BULK AT MOST 1048576: true; the input reads as it did. -/
def deltaBackUptoRow : OpenClaim := { program := "ytfedllfpgalalaa", sum := "e26e4147cd68958163851a192b176175684dafda94220d8fcf02aabb3147b753", func := "garbler/garblerlaw13.DeltaBack", spec := "deltaBack", apart := false, narrowed := true }
def DeltaBackUptoSaid : Prop := deltaBackUptoRow.holds Try.pinned (OpenSpec.upto deltaBackSpec)

/-- 'garblerlaw13.DeltaFlat', WHERE WHAT IT READS IS OF BULK AT MOST 1048576: true; the input reads as it did. -/
def deltaFlatUptoRow : OpenClaim := { program := "ytfedllfpgalalaa", sum := "e26e4147cd68958163851a192b176175684dafda94220d8fcf02aabb3147b753", func := "garbler/garblerlaw13.DeltaFlat", spec := "deltaFlat", apart := false, narrowed := true }
def DeltaFlatUptoSaid : Prop := deltaFlatUptoRow.holds Try.pinned (OpenSpec.upto deltaFlatSpec)

/-- 'garblerlaw13.DeltaSides', WHERE WHAT IT READS IS OF BULK AT MOST 1048576: true; the input reads as it did. -/
def deltaSidesUptoRow : OpenClaim := { program := "ytfedllfpgalalaa", sum := "e26e4147cd68958163851a192b176175684dafda94220d8fcf02aabb3147b753", func := "garbler/garblerlaw13.DeltaSides", spec := "deltaSides", apart := false, narrowed := true }
def DeltaSidesUptoSaid : Prop := deltaSidesUptoRow.holds Try.pinned (OpenSpec.upto deltaSidesSpec)

/-- 'garblerlaw13.DeltaProps', WHERE WHAT IT READS IS OF BULK AT MOST 1048576: true; the input reads as it did. -/
def deltaPropsUptoRow : OpenClaim := { program := "ytfedllfpgalalaa", sum := "e26e4147cd68958163851a192b176175684dafda94220d8fcf02aabb3147b753", func := "garbler/garblerlaw13.DeltaProps", spec := "deltaProps", apart := false, narrowed := true }
def DeltaPropsUptoSaid : Prop := deltaPropsUptoRow.holds Try.pinned (OpenSpec.upto deltaPropsSpec)

/-- 'garblerlaw14.BcjSides', WHERE WHAT IT READS IS OF BULK AT MOST 1048576: true; the input reads as it did. -/
def bcjSidesUptoRow : OpenClaim := { program := "ytfedllfpgalalaa", sum := "e26e4147cd68958163851a192b176175684dafda94220d8fcf02aabb3147b753", func := "garbler/garblerlaw14.BcjSides", spec := "bcjSides", apart := false, narrowed := true }
def BcjSidesUptoSaid : Prop := bcjSidesUptoRow.holds Try.pinned (OpenSpec.upto bcjSidesSpec)

/-- 'garblerlaw14.BcjBack', WHERE WHAT IT READS IS OF BULK AT MOST 1048576: true; the input reads as it did. -/
def bcjBackUptoRow : OpenClaim := { program := "ytfedllfpgalalaa", sum := "e26e4147cd68958163851a192b176175684dafda94220d8fcf02aabb3147b753", func := "garbler/garblerlaw14.BcjBack", spec := "bcjBack", apart := false, narrowed := true }
def BcjBackUptoSaid : Prop := bcjBackUptoRow.holds Try.pinned (OpenSpec.upto bcjBackSpec)

/-- 'garblerlaw14.BcjStays', WHERE WHAT IT READS IS OF BULK AT MOST 1048576: true; the input reads as it did. -/
def bcjStaysUptoRow : OpenClaim := { program := "ytfedllfpgalalaa", sum := "e26e4147cd68958163851a192b176175684dafda94220d8fcf02aabb3147b753", func := "garbler/garblerlaw14.BcjStays", spec := "bcjStays", apart := false, narrowed := true }
def BcjStaysUptoSaid : Prop := bcjStaysUptoRow.holds Try.pinned (OpenSpec.upto bcjStaysSpec)

/-- 'garblerlaw14.BcjCall', WHERE WHAT IT READS IS OF BULK AT MOST 1048576: true; the input reads as it did. -/
def bcjCallUptoRow : OpenClaim := { program := "ytfedllfpgalalaa", sum := "e26e4147cd68958163851a192b176175684dafda94220d8fcf02aabb3147b753", func := "garbler/garblerlaw14.BcjCall", spec := "bcjCall", apart := false, narrowed := true }
def BcjCallUptoSaid : Prop := bcjCallUptoRow.holds Try.pinned (OpenSpec.upto bcjCallSpec)

end Rows
end Go.Proofs.Ytfedllfpgalalaa
