/-
  No cell of these rows narrows 'for every input' (looked for: loops, veiled, ifaces, maps, wideKeys, modest, calm, conditions, laid).
  DERIVED. THE GIVEN ROWS OF THIS SEAT. 10 by the template 'for every input the law returns true; each argument reads behind the call as it read before'; 0 by the template 'total and deterministic' (their statements: YtjnegcambbeblaaTotals.lean).
  GIVEN WITH THE SEED: the statements are not yours to turn. If you find one false, say at which input.
  Laid BY PROGRAM, IN A SANDBOX (cutbox-rows.mjs): the forced cells as the released guide's own fill.sh prints them over the translation 2d4fc79f601b2778… (all of the seat's roots in one cut). By AI agents, Wed Nov 11 2026. No macro, syntax, notation, axiom, sorry.
-/
import Derived.Test.YtjnegcambbeblaaChecked
import GoSem.Claim
import GoSem.ClaimJoined
import GoSem.ClaimMapViews
import Derived.JoinedTies
import Derived.KernelRfl
namespace Go.Proofs.Ytjnegcambbeblaa
/- THE CELL 'sum', in the pinned program and in every row, IS THE sha256 OF THE DUMP (.gsa) THAT YtjnegcambbeblaaProg.lean LOADS. Nothing in Lean hashes anything: it is a label: what it is worth is what the hold of that sum in a sandbox is worth. -/
noncomputable def Try.pinned : Pinned := { name := "ytjnegcambbeblaa", sum := "2d4fc79f601b2778ef2d2813080401ef32587f895faadbb12a7f7c08d4835a02", checked := Try.checked }
namespace Rows
def none {H : Type} : Left H := { results := [], args := [] }

/-- 'garblerlaw08.LzmaCoded': WHATEVER THE INPUT: true; the input reads as it did. -/
def lzmaCodedSpec : ChangeSpec := { name := "lzmaCoded", fn := fun _ => fun
  | [d1, d2, d3] => { results := [.lit (.bool true)], args := [d1, d2, d3] }
  | _ => none }
def lzmaCodedRow : OpenClaim := { program := "ytjnegcambbeblaa", sum := "2d4fc79f601b2778ef2d2813080401ef32587f895faadbb12a7f7c08d4835a02", func := "garbler/garblerlaw08.LzmaCoded", spec := "lzmaCoded", inPlace := ["sync/atomic.LoadInt64", "sync/atomic.CompareAndSwapInt64"], unfollowed := true, recurses := true, apart := false }
def LzmaCodedSaid : Prop := lzmaCodedRow.holds Try.pinned (OpenSpec.ofChange lzmaCodedSpec)

/-- ITS FALSE NEIGHBOUR: 'it returns false'. Refute it at one input. -/
def lzmaCodedWrong : ChangeSpec := { name := "lzmaCoded", fn := fun _ => fun
  | [d1, d2, d3] => { results := [.lit (.bool false)], args := [d1, d2, d3] }
  | _ => none }
def LzmaCodedWrongFalsely : Prop := lzmaCodedRow.holds Try.pinned (OpenSpec.ofChange lzmaCodedWrong)

/-- 'garblerlaw08.LzmaFront': WHATEVER THE INPUT: true; the input reads as it did. -/
def lzmaFrontSpec : ChangeSpec := { name := "lzmaFront", fn := fun _ => fun
  | [d1, d2, d3] => { results := [.lit (.bool true)], args := [d1, d2, d3] }
  | _ => none }
def lzmaFrontRow : OpenClaim := { program := "ytjnegcambbeblaa", sum := "2d4fc79f601b2778ef2d2813080401ef32587f895faadbb12a7f7c08d4835a02", func := "garbler/garblerlaw08.LzmaFront", spec := "lzmaFront", inPlace := ["sync/atomic.LoadInt64", "sync/atomic.CompareAndSwapInt64"], unfollowed := true, recurses := true, apart := false }
def LzmaFrontSaid : Prop := lzmaFrontRow.holds Try.pinned (OpenSpec.ofChange lzmaFrontSpec)

/-- ITS FALSE NEIGHBOUR: 'it returns false'. Refute it at one input. -/
def lzmaFrontWrong : ChangeSpec := { name := "lzmaFront", fn := fun _ => fun
  | [d1, d2, d3] => { results := [.lit (.bool false)], args := [d1, d2, d3] }
  | _ => none }
def LzmaFrontWrongFalsely : Prop := lzmaFrontRow.holds Try.pinned (OpenSpec.ofChange lzmaFrontWrong)

/-- 'garblerlaw08.LzmaUnpacks': WHATEVER THE INPUT: true; the input reads as it did. -/
def lzmaUnpacksSpec : ChangeSpec := { name := "lzmaUnpacks", fn := fun _ => fun
  | [d1, d2, d3] => { results := [.lit (.bool true)], args := [d1, d2, d3] }
  | _ => none }
def lzmaUnpacksRow : OpenClaim := { program := "ytjnegcambbeblaa", sum := "2d4fc79f601b2778ef2d2813080401ef32587f895faadbb12a7f7c08d4835a02", func := "garbler/garblerlaw08.LzmaUnpacks", spec := "lzmaUnpacks", inPlace := ["sync/atomic.LoadInt64", "sync/atomic.CompareAndSwapInt64"], unfollowed := true, recurses := true, apart := false }
def LzmaUnpacksSaid : Prop := lzmaUnpacksRow.holds Try.pinned (OpenSpec.ofChange lzmaUnpacksSpec)

/-- ITS FALSE NEIGHBOUR: 'it returns false'. Refute it at one input. -/
def lzmaUnpacksWrong : ChangeSpec := { name := "lzmaUnpacks", fn := fun _ => fun
  | [d1, d2, d3] => { results := [.lit (.bool false)], args := [d1, d2, d3] }
  | _ => none }
def LzmaUnpacksWrongFalsely : Prop := lzmaUnpacksRow.holds Try.pinned (OpenSpec.ofChange lzmaUnpacksWrong)

/-- 'garblerlaw08.LzmaMem': WHATEVER THE INPUT: true; the input reads as it did. -/
def lzmaMemSpec : ChangeSpec := { name := "lzmaMem", fn := fun _ => fun
  | [d1, d2, d3] => { results := [.lit (.bool true)], args := [d1, d2, d3] }
  | _ => none }
def lzmaMemRow : OpenClaim := { program := "ytjnegcambbeblaa", sum := "2d4fc79f601b2778ef2d2813080401ef32587f895faadbb12a7f7c08d4835a02", func := "garbler/garblerlaw08.LzmaMem", spec := "lzmaMem", inPlace := ["sync/atomic.LoadInt64", "sync/atomic.CompareAndSwapInt64"], unfollowed := true, recurses := true, apart := false }
def LzmaMemSaid : Prop := lzmaMemRow.holds Try.pinned (OpenSpec.ofChange lzmaMemSpec)

/-- ITS FALSE NEIGHBOUR: 'it returns false'. Refute it at one input. -/
def lzmaMemWrong : ChangeSpec := { name := "lzmaMem", fn := fun _ => fun
  | [d1, d2, d3] => { results := [.lit (.bool false)], args := [d1, d2, d3] }
  | _ => none }
def LzmaMemWrongFalsely : Prop := lzmaMemRow.holds Try.pinned (OpenSpec.ofChange lzmaMemWrong)

/-- 'garblerlaw08.LzmaProps': WHATEVER THE INPUT: true; the input reads as it did. -/
def lzmaPropsSpec : ChangeSpec := { name := "lzmaProps", fn := fun _ => fun
  | [d1, d2] => { results := [.lit (.bool true)], args := [d1, d2] }
  | _ => none }
def lzmaPropsRow : OpenClaim := { program := "ytjnegcambbeblaa", sum := "2d4fc79f601b2778ef2d2813080401ef32587f895faadbb12a7f7c08d4835a02", func := "garbler/garblerlaw08.LzmaProps", spec := "lzmaProps", inPlace := ["sync/atomic.LoadInt64", "sync/atomic.CompareAndSwapInt64"], unfollowed := true, recurses := true, apart := false }
def LzmaPropsSaid : Prop := lzmaPropsRow.holds Try.pinned (OpenSpec.ofChange lzmaPropsSpec)

/-- ITS FALSE NEIGHBOUR: 'it returns false'. Refute it at one input. -/
def lzmaPropsWrong : ChangeSpec := { name := "lzmaProps", fn := fun _ => fun
  | [d1, d2] => { results := [.lit (.bool false)], args := [d1, d2] }
  | _ => none }
def LzmaPropsWrongFalsely : Prop := lzmaPropsRow.holds Try.pinned (OpenSpec.ofChange lzmaPropsWrong)

/-- 'garblerlaw11.Lzma2Plain': WHATEVER THE INPUT: true; the input reads as it did. -/
def lzma2PlainSpec : ChangeSpec := { name := "lzma2Plain", fn := fun _ => fun
  | [d1, d2] => { results := [.lit (.bool true)], args := [d1, d2] }
  | _ => none }
def lzma2PlainRow : OpenClaim := { program := "ytjnegcambbeblaa", sum := "2d4fc79f601b2778ef2d2813080401ef32587f895faadbb12a7f7c08d4835a02", func := "garbler/garblerlaw11.Lzma2Plain", spec := "lzma2Plain", inPlace := ["sync/atomic.LoadInt64", "sync/atomic.CompareAndSwapInt64"], unfollowed := true, recurses := true, apart := false }
def Lzma2PlainSaid : Prop := lzma2PlainRow.holds Try.pinned (OpenSpec.ofChange lzma2PlainSpec)

/-- ITS FALSE NEIGHBOUR: 'it returns false'. Refute it at one input. -/
def lzma2PlainWrong : ChangeSpec := { name := "lzma2Plain", fn := fun _ => fun
  | [d1, d2] => { results := [.lit (.bool false)], args := [d1, d2] }
  | _ => none }
def Lzma2PlainWrongFalsely : Prop := lzma2PlainRow.holds Try.pinned (OpenSpec.ofChange lzma2PlainWrong)

/-- 'garblerlaw11.Lzma2Joins': WHATEVER THE INPUT: true; the input reads as it did. -/
def lzma2JoinsSpec : ChangeSpec := { name := "lzma2Joins", fn := fun _ => fun
  | [d1, d2, d3] => { results := [.lit (.bool true)], args := [d1, d2, d3] }
  | _ => none }
def lzma2JoinsRow : OpenClaim := { program := "ytjnegcambbeblaa", sum := "2d4fc79f601b2778ef2d2813080401ef32587f895faadbb12a7f7c08d4835a02", func := "garbler/garblerlaw11.Lzma2Joins", spec := "lzma2Joins", inPlace := ["sync/atomic.LoadInt64", "sync/atomic.CompareAndSwapInt64"], unfollowed := true, recurses := true, apart := false }
def Lzma2JoinsSaid : Prop := lzma2JoinsRow.holds Try.pinned (OpenSpec.ofChange lzma2JoinsSpec)

/-- ITS FALSE NEIGHBOUR: 'it returns false'. Refute it at one input. -/
def lzma2JoinsWrong : ChangeSpec := { name := "lzma2Joins", fn := fun _ => fun
  | [d1, d2, d3] => { results := [.lit (.bool false)], args := [d1, d2, d3] }
  | _ => none }
def Lzma2JoinsWrongFalsely : Prop := lzma2JoinsRow.holds Try.pinned (OpenSpec.ofChange lzma2JoinsWrong)

/-- 'garblerlaw11.Lzma2Sizes': WHATEVER THE INPUT: true; the input reads as it did. -/
def lzma2SizesSpec : ChangeSpec := { name := "lzma2Sizes", fn := fun _ => fun
  | [d1, d2, d3] => { results := [.lit (.bool true)], args := [d1, d2, d3] }
  | _ => none }
def lzma2SizesRow : OpenClaim := { program := "ytjnegcambbeblaa", sum := "2d4fc79f601b2778ef2d2813080401ef32587f895faadbb12a7f7c08d4835a02", func := "garbler/garblerlaw11.Lzma2Sizes", spec := "lzma2Sizes", inPlace := ["sync/atomic.LoadInt64", "sync/atomic.CompareAndSwapInt64"], unfollowed := true, recurses := true, apart := false }
def Lzma2SizesSaid : Prop := lzma2SizesRow.holds Try.pinned (OpenSpec.ofChange lzma2SizesSpec)

/-- ITS FALSE NEIGHBOUR: 'it returns false'. Refute it at one input. -/
def lzma2SizesWrong : ChangeSpec := { name := "lzma2Sizes", fn := fun _ => fun
  | [d1, d2, d3] => { results := [.lit (.bool false)], args := [d1, d2, d3] }
  | _ => none }
def Lzma2SizesWrongFalsely : Prop := lzma2SizesRow.holds Try.pinned (OpenSpec.ofChange lzma2SizesWrong)

/-- 'garblerlaw11.Lzma2Mem': WHATEVER THE INPUT: true; the input reads as it did. -/
def lzma2MemSpec : ChangeSpec := { name := "lzma2Mem", fn := fun _ => fun
  | [d1, d2, d3] => { results := [.lit (.bool true)], args := [d1, d2, d3] }
  | _ => none }
def lzma2MemRow : OpenClaim := { program := "ytjnegcambbeblaa", sum := "2d4fc79f601b2778ef2d2813080401ef32587f895faadbb12a7f7c08d4835a02", func := "garbler/garblerlaw11.Lzma2Mem", spec := "lzma2Mem", inPlace := ["sync/atomic.LoadInt64", "sync/atomic.CompareAndSwapInt64"], unfollowed := true, recurses := true, apart := false }
def Lzma2MemSaid : Prop := lzma2MemRow.holds Try.pinned (OpenSpec.ofChange lzma2MemSpec)

/-- ITS FALSE NEIGHBOUR: 'it returns false'. Refute it at one input. -/
def lzma2MemWrong : ChangeSpec := { name := "lzma2Mem", fn := fun _ => fun
  | [d1, d2, d3] => { results := [.lit (.bool false)], args := [d1, d2, d3] }
  | _ => none }
def Lzma2MemWrongFalsely : Prop := lzma2MemRow.holds Try.pinned (OpenSpec.ofChange lzma2MemWrong)

/-- 'garblerlaw11.Lzma2Props': WHATEVER THE INPUT: true; the input reads as it did. -/
def lzma2PropsSpec : ChangeSpec := { name := "lzma2Props", fn := fun _ => fun
  | [d1, d2] => { results := [.lit (.bool true)], args := [d1, d2] }
  | _ => none }
def lzma2PropsRow : OpenClaim := { program := "ytjnegcambbeblaa", sum := "2d4fc79f601b2778ef2d2813080401ef32587f895faadbb12a7f7c08d4835a02", func := "garbler/garblerlaw11.Lzma2Props", spec := "lzma2Props", inPlace := ["sync/atomic.LoadInt64", "sync/atomic.CompareAndSwapInt64"], unfollowed := true, recurses := true, apart := false }
def Lzma2PropsSaid : Prop := lzma2PropsRow.holds Try.pinned (OpenSpec.ofChange lzma2PropsSpec)

/-- ITS FALSE NEIGHBOUR: 'it returns false'. Refute it at one input. -/
def lzma2PropsWrong : ChangeSpec := { name := "lzma2Props", fn := fun _ => fun
  | [d1, d2] => { results := [.lit (.bool false)], args := [d1, d2] }
  | _ => none }
def Lzma2PropsWrongFalsely : Prop := lzma2PropsRow.holds Try.pinned (OpenSpec.ofChange lzma2PropsWrong)

/- THE SECOND FORM. 'bulk': how many values and letters a reading holds, each counted each time it is reached (what is shared counts as often as it is met; a slice's spare places count too). A statement '..UptoSaid' is the law's where the arguments, and the package variables that the reading takes, are together of bulk at most 1048576: NARROWER than '..Said'. Prove '..Said' where nothing that the law and all that it calls make is longer than what came in: it says more and counts as full. Else prove '..UptoSaid'. A law counts once. -/
mutual
def uptoBulk {H : Type} : DataW H → Nat
  | .lit (.string bytes) => bytes.length + 1
  | .lit _ => 1
  | .nil => 1
  | .ptr d => uptoBulk d + 1
  | .slice elems spare => uptoBulkAll elems + uptoBulkAll spare + 1
  | .agg parts => uptoBulkAll parts + 1
  | .iface _ d => uptoBulk d + 1
  | .map entries => uptoBulkEntries entries + 1
  | .held _ => 1
def uptoBulkAll {H : Type} : List (DataW H) → Nat
  | [] => 0
  | d :: r => uptoBulk d + uptoBulkAll r
def uptoBulkEntries {H : Type} : List (Lit × DataW H) → Nat
  | [] => 0
  | x :: r => uptoBulkEntry x + uptoBulkEntries r
def uptoBulkEntry {H : Type} : Lit × DataW H → Nat
  | (.string bytes, d) => bytes.length + uptoBulk d + 1
  | (_, d) => uptoBulk d + 1
 end
def uptoSmall : (H : Type) → List (DataW H) → Bool := fun _ ds => decide (uptoBulkAll ds ≤ 1048576)
def OpenSpec.upto (s : _root_.Go.ChangeSpec) : _root_.Go.OpenSpec := { _root_.Go.OpenSpec.ofChange s with cond := some uptoSmall }

/-- 'garblerlaw08.LzmaCoded', WHERE WHAT IT READS IS OF BULK AT MOST 1048576: true; the input reads as it did. -/
def lzmaCodedUptoRow : OpenClaim := { program := "ytjnegcambbeblaa", sum := "2d4fc79f601b2778ef2d2813080401ef32587f895faadbb12a7f7c08d4835a02", func := "garbler/garblerlaw08.LzmaCoded", spec := "lzmaCoded", inPlace := ["sync/atomic.LoadInt64", "sync/atomic.CompareAndSwapInt64"], unfollowed := true, recurses := true, apart := false, narrowed := true }
def LzmaCodedUptoSaid : Prop := lzmaCodedUptoRow.holds Try.pinned (OpenSpec.upto lzmaCodedSpec)

/-- 'garblerlaw08.LzmaFront', WHERE WHAT IT READS IS OF BULK AT MOST 1048576: true; the input reads as it did. -/
def lzmaFrontUptoRow : OpenClaim := { program := "ytjnegcambbeblaa", sum := "2d4fc79f601b2778ef2d2813080401ef32587f895faadbb12a7f7c08d4835a02", func := "garbler/garblerlaw08.LzmaFront", spec := "lzmaFront", inPlace := ["sync/atomic.LoadInt64", "sync/atomic.CompareAndSwapInt64"], unfollowed := true, recurses := true, apart := false, narrowed := true }
def LzmaFrontUptoSaid : Prop := lzmaFrontUptoRow.holds Try.pinned (OpenSpec.upto lzmaFrontSpec)

/-- 'garblerlaw08.LzmaUnpacks', WHERE WHAT IT READS IS OF BULK AT MOST 1048576: true; the input reads as it did. -/
def lzmaUnpacksUptoRow : OpenClaim := { program := "ytjnegcambbeblaa", sum := "2d4fc79f601b2778ef2d2813080401ef32587f895faadbb12a7f7c08d4835a02", func := "garbler/garblerlaw08.LzmaUnpacks", spec := "lzmaUnpacks", inPlace := ["sync/atomic.LoadInt64", "sync/atomic.CompareAndSwapInt64"], unfollowed := true, recurses := true, apart := false, narrowed := true }
def LzmaUnpacksUptoSaid : Prop := lzmaUnpacksUptoRow.holds Try.pinned (OpenSpec.upto lzmaUnpacksSpec)

/-- 'garblerlaw08.LzmaMem', WHERE WHAT IT READS IS OF BULK AT MOST 1048576: true; the input reads as it did. -/
def lzmaMemUptoRow : OpenClaim := { program := "ytjnegcambbeblaa", sum := "2d4fc79f601b2778ef2d2813080401ef32587f895faadbb12a7f7c08d4835a02", func := "garbler/garblerlaw08.LzmaMem", spec := "lzmaMem", inPlace := ["sync/atomic.LoadInt64", "sync/atomic.CompareAndSwapInt64"], unfollowed := true, recurses := true, apart := false, narrowed := true }
def LzmaMemUptoSaid : Prop := lzmaMemUptoRow.holds Try.pinned (OpenSpec.upto lzmaMemSpec)

/-- 'garblerlaw08.LzmaProps', WHERE WHAT IT READS IS OF BULK AT MOST 1048576: true; the input reads as it did. -/
def lzmaPropsUptoRow : OpenClaim := { program := "ytjnegcambbeblaa", sum := "2d4fc79f601b2778ef2d2813080401ef32587f895faadbb12a7f7c08d4835a02", func := "garbler/garblerlaw08.LzmaProps", spec := "lzmaProps", inPlace := ["sync/atomic.LoadInt64", "sync/atomic.CompareAndSwapInt64"], unfollowed := true, recurses := true, apart := false, narrowed := true }
def LzmaPropsUptoSaid : Prop := lzmaPropsUptoRow.holds Try.pinned (OpenSpec.upto lzmaPropsSpec)

/-- 'garblerlaw11.Lzma2Plain', WHERE WHAT IT READS IS OF BULK AT MOST 1048576: true; the input reads as it did. -/
def lzma2PlainUptoRow : OpenClaim := { program := "ytjnegcambbeblaa", sum := "2d4fc79f601b2778ef2d2813080401ef32587f895faadbb12a7f7c08d4835a02", func := "garbler/garblerlaw11.Lzma2Plain", spec := "lzma2Plain", inPlace := ["sync/atomic.LoadInt64", "sync/atomic.CompareAndSwapInt64"], unfollowed := true, recurses := true, apart := false, narrowed := true }
def Lzma2PlainUptoSaid : Prop := lzma2PlainUptoRow.holds Try.pinned (OpenSpec.upto lzma2PlainSpec)

/-- 'garblerlaw11.Lzma2Joins', WHERE WHAT IT READS IS OF BULK AT MOST 1048576: true; the input reads as it did. -/
def lzma2JoinsUptoRow : OpenClaim := { program := "ytjnegcambbeblaa", sum := "2d4fc79f601b2778ef2d2813080401ef32587f895faadbb12a7f7c08d4835a02", func := "garbler/garblerlaw11.Lzma2Joins", spec := "lzma2Joins", inPlace := ["sync/atomic.LoadInt64", "sync/atomic.CompareAndSwapInt64"], unfollowed := true, recurses := true, apart := false, narrowed := true }
def Lzma2JoinsUptoSaid : Prop := lzma2JoinsUptoRow.holds Try.pinned (OpenSpec.upto lzma2JoinsSpec)

/-- 'garblerlaw11.Lzma2Sizes', WHERE WHAT IT READS IS OF BULK AT MOST 1048576: true; the input reads as it did. -/
def lzma2SizesUptoRow : OpenClaim := { program := "ytjnegcambbeblaa", sum := "2d4fc79f601b2778ef2d2813080401ef32587f895faadbb12a7f7c08d4835a02", func := "garbler/garblerlaw11.Lzma2Sizes", spec := "lzma2Sizes", inPlace := ["sync/atomic.LoadInt64", "sync/atomic.CompareAndSwapInt64"], unfollowed := true, recurses := true, apart := false, narrowed := true }
def Lzma2SizesUptoSaid : Prop := lzma2SizesUptoRow.holds Try.pinned (OpenSpec.upto lzma2SizesSpec)

/-- 'garblerlaw11.Lzma2Mem', WHERE WHAT IT READS IS OF BULK AT MOST 1048576: true; the input reads as it did. -/
def lzma2MemUptoRow : OpenClaim := { program := "ytjnegcambbeblaa", sum := "2d4fc79f601b2778ef2d2813080401ef32587f895faadbb12a7f7c08d4835a02", func := "garbler/garblerlaw11.Lzma2Mem", spec := "lzma2Mem", inPlace := ["sync/atomic.LoadInt64", "sync/atomic.CompareAndSwapInt64"], unfollowed := true, recurses := true, apart := false, narrowed := true }
def Lzma2MemUptoSaid : Prop := lzma2MemUptoRow.holds Try.pinned (OpenSpec.upto lzma2MemSpec)

/-- 'garblerlaw11.Lzma2Props', WHERE WHAT IT READS IS OF BULK AT MOST 1048576: true; the input reads as it did. -/
def lzma2PropsUptoRow : OpenClaim := { program := "ytjnegcambbeblaa", sum := "2d4fc79f601b2778ef2d2813080401ef32587f895faadbb12a7f7c08d4835a02", func := "garbler/garblerlaw11.Lzma2Props", spec := "lzma2Props", inPlace := ["sync/atomic.LoadInt64", "sync/atomic.CompareAndSwapInt64"], unfollowed := true, recurses := true, apart := false, narrowed := true }
def Lzma2PropsUptoSaid : Prop := lzma2PropsUptoRow.holds Try.pinned (OpenSpec.upto lzma2PropsSpec)

end Rows
end Go.Proofs.Ytjnegcambbeblaa
