/-
  No cell of these rows narrows 'for every input' (looked for: loops, veiled, ifaces, maps, wideKeys, modest, calm, conditions, laid).
  DERIVED. THE GIVEN ROWS OF THIS SEAT. 7 by the template 'for every input the law returns true; each argument reads behind the call as it read before'; 0 by the template 'total and deterministic' (their statements: YthjplfflkdnfnaaTotals.lean).
  GIVEN WITH THE SEED: the statements are not yours to turn. If you find one false, say at which input.
  Laid BY PROGRAM, IN A SANDBOX (cutbox-rows.mjs): the forced cells as the released guide's own fill.sh prints them over the translation 50164f96ea41da26… (all of the seat's roots in one cut). By AI agents, Wed Nov 11 2026. No macro, syntax, notation, axiom, sorry.
-/
import Derived.Test.YthjplfflkdnfnaaChecked
import GoSem.Claim
import GoSem.ClaimJoined
import GoSem.ClaimMapViews
import Derived.JoinedTies
import Derived.KernelRfl
namespace Go.Proofs.Ythjplfflkdnfnaa
/- THE CELL 'sum', in the pinned program and in every row, IS THE sha256 OF THE DUMP (.gsa) THAT YthjplfflkdnfnaaProg.lean LOADS. Nothing in Lean hashes anything: it is a label: what it is worth is what the hold of that sum in a sandbox is worth. -/
noncomputable def Try.pinned : Pinned := { name := "ythjplfflkdnfnaa", sum := "50164f96ea41da26501f2cbdce5807d2a441f48f66db6c8a269c1a14ba0cb5c4", checked := Try.checked }
namespace Rows
def none {H : Type} : Left H := { results := [], args := [] }

/-- 'refmeshlaw03.SiphashSums': WHATEVER THE INPUT: true; the input reads as it did. -/
def siphashSumsSpec : ChangeSpec := { name := "siphashSums", fn := fun _ => fun
  | [d1, d2, d3] => { results := [.lit (.bool true)], args := [d1, d2, d3] }
  | _ => none }
def siphashSumsRow : OpenClaim := { program := "ythjplfflkdnfnaa", sum := "50164f96ea41da26501f2cbdce5807d2a441f48f66db6c8a269c1a14ba0cb5c4", func := "refmesh/refmeshlaw03.SiphashSums", spec := "siphashSums", apart := false }
def SiphashSumsSaid : Prop := siphashSumsRow.holds Try.pinned (OpenSpec.ofChange siphashSumsSpec)

/-- ITS FALSE NEIGHBOUR: 'it returns false'. Refute it at one input. -/
def siphashSumsWrong : ChangeSpec := { name := "siphashSums", fn := fun _ => fun
  | [d1, d2, d3] => { results := [.lit (.bool false)], args := [d1, d2, d3] }
  | _ => none }
def SiphashSumsWrongFalsely : Prop := siphashSumsRow.holds Try.pinned (OpenSpec.ofChange siphashSumsWrong)

/-- 'refmeshlaw03.SiphashVectors': WHATEVER THE INPUT: true; the input reads as it did. -/
def siphashVectorsSpec : ChangeSpec := { name := "siphashVectors", fn := fun _ => fun
  | [d] => { results := [.lit (.bool true)], args := [d] }
  | _ => none }
def siphashVectorsRow : OpenClaim := { program := "ythjplfflkdnfnaa", sum := "50164f96ea41da26501f2cbdce5807d2a441f48f66db6c8a269c1a14ba0cb5c4", func := "refmesh/refmeshlaw03.SiphashVectors", spec := "siphashVectors", apart := false }
def SiphashVectorsSaid : Prop := siphashVectorsRow.holds Try.pinned (OpenSpec.ofChange siphashVectorsSpec)

/-- ITS FALSE NEIGHBOUR: 'it returns false'. Refute it at one input. -/
def siphashVectorsWrong : ChangeSpec := { name := "siphashVectors", fn := fun _ => fun
  | [d] => { results := [.lit (.bool false)], args := [d] }
  | _ => none }
def SiphashVectorsWrongFalsely : Prop := siphashVectorsRow.holds Try.pinned (OpenSpec.ofChange siphashVectorsWrong)

/-- 'refmeshlaw03.SiphashChunks': WHATEVER THE INPUT: true; the input reads as it did. -/
def siphashChunksSpec : ChangeSpec := { name := "siphashChunks", fn := fun _ => fun
  | [d1, d2, d3, d4] => { results := [.lit (.bool true)], args := [d1, d2, d3, d4] }
  | _ => none }
def siphashChunksRow : OpenClaim := { program := "ythjplfflkdnfnaa", sum := "50164f96ea41da26501f2cbdce5807d2a441f48f66db6c8a269c1a14ba0cb5c4", func := "refmesh/refmeshlaw03.SiphashChunks", spec := "siphashChunks", apart := false }
def SiphashChunksSaid : Prop := siphashChunksRow.holds Try.pinned (OpenSpec.ofChange siphashChunksSpec)

/-- ITS FALSE NEIGHBOUR: 'it returns false'. Refute it at one input. -/
def siphashChunksWrong : ChangeSpec := { name := "siphashChunks", fn := fun _ => fun
  | [d1, d2, d3, d4] => { results := [.lit (.bool false)], args := [d1, d2, d3, d4] }
  | _ => none }
def SiphashChunksWrongFalsely : Prop := siphashChunksRow.holds Try.pinned (OpenSpec.ofChange siphashChunksWrong)

/-- 'refmeshlaw03.SiphashContinues': WHATEVER THE INPUT: true; the input reads as it did. -/
def siphashContinuesSpec : ChangeSpec := { name := "siphashContinues", fn := fun _ => fun
  | [d1, d2, d3] => { results := [.lit (.bool true)], args := [d1, d2, d3] }
  | _ => none }
def siphashContinuesRow : OpenClaim := { program := "ythjplfflkdnfnaa", sum := "50164f96ea41da26501f2cbdce5807d2a441f48f66db6c8a269c1a14ba0cb5c4", func := "refmesh/refmeshlaw03.SiphashContinues", spec := "siphashContinues", apart := false }
def SiphashContinuesSaid : Prop := siphashContinuesRow.holds Try.pinned (OpenSpec.ofChange siphashContinuesSpec)

/-- ITS FALSE NEIGHBOUR: 'it returns false'. Refute it at one input. -/
def siphashContinuesWrong : ChangeSpec := { name := "siphashContinues", fn := fun _ => fun
  | [d1, d2, d3] => { results := [.lit (.bool false)], args := [d1, d2, d3] }
  | _ => none }
def SiphashContinuesWrongFalsely : Prop := siphashContinuesRow.holds Try.pinned (OpenSpec.ofChange siphashContinuesWrong)

/-- 'refmeshlaw03.SiphashMemory': WHATEVER THE INPUT: true; the input reads as it did. -/
def siphashMemorySpec : ChangeSpec := { name := "siphashMemory", fn := fun _ => fun
  | [d1, d2, d3, d4] => { results := [.lit (.bool true)], args := [d1, d2, d3, d4] }
  | _ => none }
def siphashMemoryRow : OpenClaim := { program := "ythjplfflkdnfnaa", sum := "50164f96ea41da26501f2cbdce5807d2a441f48f66db6c8a269c1a14ba0cb5c4", func := "refmesh/refmeshlaw03.SiphashMemory", spec := "siphashMemory", apart := false }
def SiphashMemorySaid : Prop := siphashMemoryRow.holds Try.pinned (OpenSpec.ofChange siphashMemorySpec)

/-- ITS FALSE NEIGHBOUR: 'it returns false'. Refute it at one input. -/
def siphashMemoryWrong : ChangeSpec := { name := "siphashMemory", fn := fun _ => fun
  | [d1, d2, d3, d4] => { results := [.lit (.bool false)], args := [d1, d2, d3, d4] }
  | _ => none }
def SiphashMemoryWrongFalsely : Prop := siphashMemoryRow.holds Try.pinned (OpenSpec.ofChange siphashMemoryWrong)

/-- 'refmeshlaw03.SiphashKeys': WHATEVER THE INPUT: true; the input reads as it did. -/
def siphashKeysSpec : ChangeSpec := { name := "siphashKeys", fn := fun _ => fun
  | [d1, d2, d3] => { results := [.lit (.bool true)], args := [d1, d2, d3] }
  | _ => none }
def siphashKeysRow : OpenClaim := { program := "ythjplfflkdnfnaa", sum := "50164f96ea41da26501f2cbdce5807d2a441f48f66db6c8a269c1a14ba0cb5c4", func := "refmesh/refmeshlaw03.SiphashKeys", spec := "siphashKeys", unfollowed := true, recurses := true, apart := false }
def SiphashKeysSaid : Prop := siphashKeysRow.holds Try.pinned (OpenSpec.ofChange siphashKeysSpec)

/-- ITS FALSE NEIGHBOUR: 'it returns false'. Refute it at one input. -/
def siphashKeysWrong : ChangeSpec := { name := "siphashKeys", fn := fun _ => fun
  | [d1, d2, d3] => { results := [.lit (.bool false)], args := [d1, d2, d3] }
  | _ => none }
def SiphashKeysWrongFalsely : Prop := siphashKeysRow.holds Try.pinned (OpenSpec.ofChange siphashKeysWrong)

/-- 'refmeshlaw03.SiphashNumbers': WHATEVER THE INPUT: true; the input reads as it did. -/
def siphashNumbersSpec : ChangeSpec := { name := "siphashNumbers", fn := fun _ => fun
  | [d1, d2, d3] => { results := [.lit (.bool true)], args := [d1, d2, d3] }
  | _ => none }
def siphashNumbersRow : OpenClaim := { program := "ythjplfflkdnfnaa", sum := "50164f96ea41da26501f2cbdce5807d2a441f48f66db6c8a269c1a14ba0cb5c4", func := "refmesh/refmeshlaw03.SiphashNumbers", spec := "siphashNumbers", apart := false }
def SiphashNumbersSaid : Prop := siphashNumbersRow.holds Try.pinned (OpenSpec.ofChange siphashNumbersSpec)

/-- ITS FALSE NEIGHBOUR: 'it returns false'. Refute it at one input. -/
def siphashNumbersWrong : ChangeSpec := { name := "siphashNumbers", fn := fun _ => fun
  | [d1, d2, d3] => { results := [.lit (.bool false)], args := [d1, d2, d3] }
  | _ => none }
def SiphashNumbersWrongFalsely : Prop := siphashNumbersRow.holds Try.pinned (OpenSpec.ofChange siphashNumbersWrong)

/- THE SECOND FORM. 'bulk': how many values and letters a reading holds, each counted each time it is reached (what is shared counts as often as it is met; a slice's spare places count too). A statement '..UptoSaid' is the law's where the arguments, and the package variables that the reading takes, are together of bulk at most 1048576: NARROWER than '..Said'. Prove '..Said' where nothing that the law and all that it calls make is longer than what came in: it says more and counts as full. Else prove '..UptoSaid'. A law counts once. -/
mutual
def uptoBulk {H : Type} : DataW H → Nat
  | .lit (.string bytes) => bytes.length + 1
  | .lit _ => 1
  | .nil => 1
  | .ptr d => uptoBulk d + 1
  | .slice elems spare => uptoBulkAll elems + uptoBulkAll spare + 1
  | .agg parts => uptoBulkAll parts + 1
  | .iface _ d => uptoBulk d + 1
  | .map entries => uptoBulkEntries entries + 1
  | .held _ => 1
def uptoBulkAll {H : Type} : List (DataW H) → Nat
  | [] => 0
  | d :: r => uptoBulk d + uptoBulkAll r
def uptoBulkEntries {H : Type} : List (Lit × DataW H) → Nat
  | [] => 0
  | x :: r => uptoBulkEntry x + uptoBulkEntries r
def uptoBulkEntry {H : Type} : Lit × DataW H → Nat
  | (.string bytes, d) => bytes.length + uptoBulk d + 1
  | (_, d) => uptoBulk d + 1
 end
def uptoSmall : (H : Type) → List (DataW H) → Bool := fun _ ds => decide (uptoBulkAll ds ≤ 1048576)
def OpenSpec.upto (s : _root_.Go.ChangeSpec) : _root_.Go.OpenSpec := { _root_.Go.OpenSpec.ofChange s with cond := some uptoSmall }

/-- 'refmeshlaw03.SiphashSums', WHERE WHAT IT READS IS OF BULK AT MOST 1048576: true; the input reads as it did. -/
def siphashSumsUptoRow : OpenClaim := { program := "ythjplfflkdnfnaa", sum := "50164f96ea41da26501f2cbdce5807d2a441f48f66db6c8a269c1a14ba0cb5c4", func := "refmesh/refmeshlaw03.SiphashSums", spec := "siphashSums", apart := false, narrowed := true }
def SiphashSumsUptoSaid : Prop := siphashSumsUptoRow.holds Try.pinned (OpenSpec.upto siphashSumsSpec)

/-- 'refmeshlaw03.SiphashVectors', WHERE WHAT IT READS IS OF BULK AT MOST 1048576: true; the input reads as it did. -/
def siphashVectorsUptoRow : OpenClaim := { program := "ythjplfflkdnfnaa", sum := "50164f96ea41da26501f2cbdce5807d2a441f48f66db6c8a269c1a14ba0cb5c4", func := "refmesh/refmeshlaw03.SiphashVectors", spec := "siphashVectors", apart := false, narrowed := true }
def SiphashVectorsUptoSaid : Prop := siphashVectorsUptoRow.holds Try.pinned (OpenSpec.upto siphashVectorsSpec)

/-- 'refmeshlaw03.SiphashChunks', WHERE WHAT IT READS IS OF BULK AT MOST 1048576: true; the input reads as it did. -/
def siphashChunksUptoRow : OpenClaim := { program := "ythjplfflkdnfnaa", sum := "50164f96ea41da26501f2cbdce5807d2a441f48f66db6c8a269c1a14ba0cb5c4", func := "refmesh/refmeshlaw03.SiphashChunks", spec := "siphashChunks", apart := false, narrowed := true }
def SiphashChunksUptoSaid : Prop := siphashChunksUptoRow.holds Try.pinned (OpenSpec.upto siphashChunksSpec)

/-- 'refmeshlaw03.SiphashContinues', WHERE WHAT IT READS IS OF BULK AT MOST 1048576: true; the input reads as it did. -/
def siphashContinuesUptoRow : OpenClaim := { program := "ythjplfflkdnfnaa", sum := "50164f96ea41da26501f2cbdce5807d2a441f48f66db6c8a269c1a14ba0cb5c4", func := "refmesh/refmeshlaw03.SiphashContinues", spec := "siphashContinues", apart := false, narrowed := true }
def SiphashContinuesUptoSaid : Prop := siphashContinuesUptoRow.holds Try.pinned (OpenSpec.upto siphashContinuesSpec)

/-- 'refmeshlaw03.SiphashMemory', WHERE WHAT IT READS IS OF BULK AT MOST 1048576: true; the input reads as it did. -/
def siphashMemoryUptoRow : OpenClaim := { program := "ythjplfflkdnfnaa", sum := "50164f96ea41da26501f2cbdce5807d2a441f48f66db6c8a269c1a14ba0cb5c4", func := "refmesh/refmeshlaw03.SiphashMemory", spec := "siphashMemory", apart := false, narrowed := true }
def SiphashMemoryUptoSaid : Prop := siphashMemoryUptoRow.holds Try.pinned (OpenSpec.upto siphashMemorySpec)

/-- 'refmeshlaw03.SiphashKeys', WHERE WHAT IT READS IS OF BULK AT MOST 1048576: true; the input reads as it did. -/
def siphashKeysUptoRow : OpenClaim := { program := "ythjplfflkdnfnaa", sum := "50164f96ea41da26501f2cbdce5807d2a441f48f66db6c8a269c1a14ba0cb5c4", func := "refmesh/refmeshlaw03.SiphashKeys", spec := "siphashKeys", unfollowed := true, recurses := true, apart := false, narrowed := true }
def SiphashKeysUptoSaid : Prop := siphashKeysUptoRow.holds Try.pinned (OpenSpec.upto siphashKeysSpec)

/-- 'refmeshlaw03.SiphashNumbers', WHERE WHAT IT READS IS OF BULK AT MOST 1048576: true; the input reads as it did. -/
def siphashNumbersUptoRow : OpenClaim := { program := "ythjplfflkdnfnaa", sum := "50164f96ea41da26501f2cbdce5807d2a441f48f66db6c8a269c1a14ba0cb5c4", func := "refmesh/refmeshlaw03.SiphashNumbers", spec := "siphashNumbers", apart := false, narrowed := true }
def SiphashNumbersUptoSaid : Prop := siphashNumbersUptoRow.holds Try.pinned (OpenSpec.upto siphashNumbersSpec)

end Rows
end Go.Proofs.Ythjplfflkdnfnaa
