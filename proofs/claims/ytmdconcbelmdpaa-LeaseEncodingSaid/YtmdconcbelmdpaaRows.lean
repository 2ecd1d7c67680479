/-
  No cell of these rows narrows 'for every input' (looked for: loops, veiled, ifaces, maps, wideKeys, modest, calm, conditions, laid).
  DERIVED. THE GIVEN ROWS OF THIS SEAT. 7 by the template 'for every input the law returns true; each argument reads behind the call as it read before'; 0 by the template 'total and deterministic' (their statements: YtmdconcbelmdpaaTotals.lean).
  GIVEN WITH THE SEED: the statements are not yours to turn. If you find one false, say at which input.
  Laid BY PROGRAM, IN A SANDBOX (cutbox-rows.mjs): the forced cells as the released guide's own fill.sh prints them over the translation d90d6c5eb43b87d4… (all of the seat's roots in one cut). By AI agents, Wed Nov 11 2026. No macro, syntax, notation, axiom, sorry.
-/
import Derived.Test.YtmdconcbelmdpaaChecked
import GoSem.Claim
import GoSem.ClaimJoined
import GoSem.ClaimMapViews
import Derived.JoinedTies
import Derived.KernelRfl
namespace Go.Proofs.Ytmdconcbelmdpaa
/- THE CELL 'sum', in the pinned program and in every row, IS THE sha256 OF THE DUMP (.gsa) THAT YtmdconcbelmdpaaProg.lean LOADS. Nothing in Lean hashes anything: it is a label: what it is worth is what the hold of that sum in a sandbox is worth. -/
noncomputable def Try.pinned : Pinned := { name := "ytmdconcbelmdpaa", sum := "d90d6c5eb43b87d4165a599b327b75c5ed5ae267df9230e358723fecea7e8f33", checked := Try.checked }
namespace Rows
def none {H : Type} : Left H := { results := [], args := [] }

/-- 'refmeshlaw26.LeaseCalls': WHATEVER THE INPUT: true; the input reads as it did. -/
def leaseCallsSpec : ChangeSpec := { name := "leaseCalls", fn := fun _ => fun
  | [d1, d2] => { results := [.lit (.bool true)], args := [d1, d2] }
  | _ => none }
def leaseCallsRow : OpenClaim := { program := "ytmdconcbelmdpaa", sum := "d90d6c5eb43b87d4165a599b327b75c5ed5ae267df9230e358723fecea7e8f33", func := "refmesh/refmeshlaw26.LeaseCalls", spec := "leaseCalls", apart := false }
def LeaseCallsSaid : Prop := leaseCallsRow.holds Try.pinned (OpenSpec.ofChange leaseCallsSpec)

/-- ITS FALSE NEIGHBOUR: 'it returns false'. Refute it at one input. -/
def leaseCallsWrong : ChangeSpec := { name := "leaseCalls", fn := fun _ => fun
  | [d1, d2] => { results := [.lit (.bool false)], args := [d1, d2] }
  | _ => none }
def LeaseCallsWrongFalsely : Prop := leaseCallsRow.holds Try.pinned (OpenSpec.ofChange leaseCallsWrong)

/-- 'refmeshlaw26.LeaseOverdue': WHATEVER THE INPUT: true; the input reads as it did. -/
def leaseOverdueSpec : ChangeSpec := { name := "leaseOverdue", fn := fun _ => fun
  | [d1, d2, d3, d4] => { results := [.lit (.bool true)], args := [d1, d2, d3, d4] }
  | _ => none }
def leaseOverdueRow : OpenClaim := { program := "ytmdconcbelmdpaa", sum := "d90d6c5eb43b87d4165a599b327b75c5ed5ae267df9230e358723fecea7e8f33", func := "refmesh/refmeshlaw26.LeaseOverdue", spec := "leaseOverdue", apart := false }
def LeaseOverdueSaid : Prop := leaseOverdueRow.holds Try.pinned (OpenSpec.ofChange leaseOverdueSpec)

/-- ITS FALSE NEIGHBOUR: 'it returns false'. Refute it at one input. -/
def leaseOverdueWrong : ChangeSpec := { name := "leaseOverdue", fn := fun _ => fun
  | [d1, d2, d3, d4] => { results := [.lit (.bool false)], args := [d1, d2, d3, d4] }
  | _ => none }
def LeaseOverdueWrongFalsely : Prop := leaseOverdueRow.holds Try.pinned (OpenSpec.ofChange leaseOverdueWrong)

/-- 'refmeshlaw26.LeaseGrace': WHATEVER THE INPUT: true; the input reads as it did. -/
def leaseGraceSpec : ChangeSpec := { name := "leaseGrace", fn := fun _ => fun
  | [d1, d2, d3, d4, d5] => { results := [.lit (.bool true)], args := [d1, d2, d3, d4, d5] }
  | _ => none }
def leaseGraceRow : OpenClaim := { program := "ytmdconcbelmdpaa", sum := "d90d6c5eb43b87d4165a599b327b75c5ed5ae267df9230e358723fecea7e8f33", func := "refmesh/refmeshlaw26.LeaseGrace", spec := "leaseGrace", apart := false }
def LeaseGraceSaid : Prop := leaseGraceRow.holds Try.pinned (OpenSpec.ofChange leaseGraceSpec)

/-- ITS FALSE NEIGHBOUR: 'it returns false'. Refute it at one input. -/
def leaseGraceWrong : ChangeSpec := { name := "leaseGrace", fn := fun _ => fun
  | [d1, d2, d3, d4, d5] => { results := [.lit (.bool false)], args := [d1, d2, d3, d4, d5] }
  | _ => none }
def LeaseGraceWrongFalsely : Prop := leaseGraceRow.holds Try.pinned (OpenSpec.ofChange leaseGraceWrong)

/-- 'refmeshlaw26.LeaseMonotone': WHATEVER THE INPUT: true; the input reads as it did. -/
def leaseMonotoneSpec : ChangeSpec := { name := "leaseMonotone", fn := fun _ => fun
  | [d1, d2] => { results := [.lit (.bool true)], args := [d1, d2] }
  | _ => none }
def leaseMonotoneRow : OpenClaim := { program := "ytmdconcbelmdpaa", sum := "d90d6c5eb43b87d4165a599b327b75c5ed5ae267df9230e358723fecea7e8f33", func := "refmesh/refmeshlaw26.LeaseMonotone", spec := "leaseMonotone", apart := false }
def LeaseMonotoneSaid : Prop := leaseMonotoneRow.holds Try.pinned (OpenSpec.ofChange leaseMonotoneSpec)

/-- ITS FALSE NEIGHBOUR: 'it returns false'. Refute it at one input. -/
def leaseMonotoneWrong : ChangeSpec := { name := "leaseMonotone", fn := fun _ => fun
  | [d1, d2] => { results := [.lit (.bool false)], args := [d1, d2] }
  | _ => none }
def LeaseMonotoneWrongFalsely : Prop := leaseMonotoneRow.holds Try.pinned (OpenSpec.ofChange leaseMonotoneWrong)

/-- 'refmeshlaw26.LeaseRounds': WHATEVER THE INPUT: true; the input reads as it did. -/
def leaseRoundsSpec : ChangeSpec := { name := "leaseRounds", fn := fun _ => fun
  | [d1, d2] => { results := [.lit (.bool true)], args := [d1, d2] }
  | _ => none }
def leaseRoundsRow : OpenClaim := { program := "ytmdconcbelmdpaa", sum := "d90d6c5eb43b87d4165a599b327b75c5ed5ae267df9230e358723fecea7e8f33", func := "refmesh/refmeshlaw26.LeaseRounds", spec := "leaseRounds", apart := false }
def LeaseRoundsSaid : Prop := leaseRoundsRow.holds Try.pinned (OpenSpec.ofChange leaseRoundsSpec)

/-- ITS FALSE NEIGHBOUR: 'it returns false'. Refute it at one input. -/
def leaseRoundsWrong : ChangeSpec := { name := "leaseRounds", fn := fun _ => fun
  | [d1, d2] => { results := [.lit (.bool false)], args := [d1, d2] }
  | _ => none }
def LeaseRoundsWrongFalsely : Prop := leaseRoundsRow.holds Try.pinned (OpenSpec.ofChange leaseRoundsWrong)

/-- 'refmeshlaw26.LeaseEncoding': WHATEVER THE INPUT: true; the input reads as it did. -/
def leaseEncodingSpec : ChangeSpec := { name := "leaseEncoding", fn := fun _ => fun
  | [d1, d2, d3] => { results := [.lit (.bool true)], args := [d1, d2, d3] }
  | _ => none }
def leaseEncodingRow : OpenClaim := { program := "ytmdconcbelmdpaa", sum := "d90d6c5eb43b87d4165a599b327b75c5ed5ae267df9230e358723fecea7e8f33", func := "refmesh/refmeshlaw26.LeaseEncoding", spec := "leaseEncoding", unfollowed := true, recurses := true, apart := false }
def LeaseEncodingSaid : Prop := leaseEncodingRow.holds Try.pinned (OpenSpec.ofChange leaseEncodingSpec)

/-- ITS FALSE NEIGHBOUR: 'it returns false'. Refute it at one input. -/
def leaseEncodingWrong : ChangeSpec := { name := "leaseEncoding", fn := fun _ => fun
  | [d1, d2, d3] => { results := [.lit (.bool false)], args := [d1, d2, d3] }
  | _ => none }
def LeaseEncodingWrongFalsely : Prop := leaseEncodingRow.holds Try.pinned (OpenSpec.ofChange leaseEncodingWrong)

/-- 'refmeshlaw26.LeaseDecoding': WHATEVER THE INPUT: true; the input reads as it did. -/
def leaseDecodingSpec : ChangeSpec := { name := "leaseDecoding", fn := fun _ => fun
  | [d] => { results := [.lit (.bool true)], args := [d] }
  | _ => none }
def leaseDecodingRow : OpenClaim := { program := "ytmdconcbelmdpaa", sum := "d90d6c5eb43b87d4165a599b327b75c5ed5ae267df9230e358723fecea7e8f33", func := "refmesh/refmeshlaw26.LeaseDecoding", spec := "leaseDecoding", unfollowed := true, recurses := true, apart := false }
def LeaseDecodingSaid : Prop := leaseDecodingRow.holds Try.pinned (OpenSpec.ofChange leaseDecodingSpec)

/-- ITS FALSE NEIGHBOUR: 'it returns false'. Refute it at one input. -/
def leaseDecodingWrong : ChangeSpec := { name := "leaseDecoding", fn := fun _ => fun
  | [d] => { results := [.lit (.bool false)], args := [d] }
  | _ => none }
def LeaseDecodingWrongFalsely : Prop := leaseDecodingRow.holds Try.pinned (OpenSpec.ofChange leaseDecodingWrong)

/- THE SECOND FORM. 'bulk': how many values and letters a reading holds, each counted each time it is reached (what is shared counts as often as it is met; a slice's spare places count too). A statement '..UptoSaid' is the law's where the arguments, and the package variables that the reading takes, are together of bulk at most 1048576: NARROWER than '..Said'. Prove '..Said' where nothing that the law and all that it calls make is longer than what came in: it says more and counts as full. Else prove '..UptoSaid'. A law counts once. -/
mutual
def uptoBulk {H : Type} : DataW H → Nat
  | .lit (.string bytes) => bytes.length + 1
  | .lit _ => 1
  | .nil => 1
  | .ptr d => uptoBulk d + 1
  | .slice elems spare => uptoBulkAll elems + uptoBulkAll spare + 1
  | .agg parts => uptoBulkAll parts + 1
  | .iface _ d => uptoBulk d + 1
  | .map entries => uptoBulkEntries entries + 1
  | .held _ => 1
def uptoBulkAll {H : Type} : List (DataW H) → Nat
  | [] => 0
  | d :: r => uptoBulk d + uptoBulkAll r
def uptoBulkEntries {H : Type} : List (Lit × DataW H) → Nat
  | [] => 0
  | x :: r => uptoBulkEntry x + uptoBulkEntries r
def uptoBulkEntry {H : Type} : Lit × DataW H → Nat
  | (.string bytes, d) => bytes.length + uptoBulk d + 1
  | (_, d) => uptoBulk d + 1
 end
def uptoSmall : (H : Type) → List (DataW H) → Bool := fun _ ds => decide (uptoBulkAll ds ≤ 1048576)
def OpenSpec.upto (s : _root_.Go.ChangeSpec) : _root_.Go.OpenSpec := { _root_.Go.OpenSpec.ofChange s with cond := some uptoSmall }

/-- 'refmeshlaw26.LeaseCalls', WHERE WHAT IT READS IS OF BULK AT MOST 1048576: true; the input reads as it did. -/
def leaseCallsUptoRow : OpenClaim := { program := "ytmdconcbelmdpaa", sum := "d90d6c5eb43b87d4165a599b327b75c5ed5ae267df9230e358723fecea7e8f33", func := "refmesh/refmeshlaw26.LeaseCalls", spec := "leaseCalls", apart := false, narrowed := true }
def LeaseCallsUptoSaid : Prop := leaseCallsUptoRow.holds Try.pinned (OpenSpec.upto leaseCallsSpec)

/-- 'refmeshlaw26.LeaseOverdue', WHERE WHAT IT READS IS OF BULK AT MOST 1048576: true; the input reads as it did. -/
def leaseOverdueUptoRow : OpenClaim := { program := "ytmdconcbelmdpaa", sum := "d90d6c5eb43b87d4165a599b327b75c5ed5ae267df9230e358723fecea7e8f33", func := "refmesh/refmeshlaw26.LeaseOverdue", spec := "leaseOverdue", apart := false, narrowed := true }
def LeaseOverdueUptoSaid : Prop := leaseOverdueUptoRow.holds Try.pinned (OpenSpec.upto leaseOverdueSpec)

/-- 'refmeshlaw26.LeaseGrace', WHERE WHAT IT READS IS OF BULK AT MOST 1048576: true; the input reads as it did. -/
def leaseGraceUptoRow : OpenClaim := { program := "ytmdconcbelmdpaa", sum := "d90d6c5eb43b87d4165a599b327b75c5ed5ae267df9230e358723fecea7e8f33", func := "refmesh/refmeshlaw26.LeaseGrace", spec := "leaseGrace", apart := false, narrowed := true }
def LeaseGraceUptoSaid : Prop := leaseGraceUptoRow.holds Try.pinned (OpenSpec.upto leaseGraceSpec)

/-- 'refmeshlaw26.LeaseMonotone', WHERE WHAT IT READS IS OF BULK AT MOST 1048576: true; the input reads as it did. -/
def leaseMonotoneUptoRow : OpenClaim := { program := "ytmdconcbelmdpaa", sum := "d90d6c5eb43b87d4165a599b327b75c5ed5ae267df9230e358723fecea7e8f33", func := "refmesh/refmeshlaw26.LeaseMonotone", spec := "leaseMonotone", apart := false, narrowed := true }
def LeaseMonotoneUptoSaid : Prop := leaseMonotoneUptoRow.holds Try.pinned (OpenSpec.upto leaseMonotoneSpec)

/-- 'refmeshlaw26.LeaseRounds', WHERE WHAT IT READS IS OF BULK AT MOST 1048576: true; the input reads as it did. -/
def leaseRoundsUptoRow : OpenClaim := { program := "ytmdconcbelmdpaa", sum := "d90d6c5eb43b87d4165a599b327b75c5ed5ae267df9230e358723fecea7e8f33", func := "refmesh/refmeshlaw26.LeaseRounds", spec := "leaseRounds", apart := false, narrowed := true }
def LeaseRoundsUptoSaid : Prop := leaseRoundsUptoRow.holds Try.pinned (OpenSpec.upto leaseRoundsSpec)

/-- 'refmeshlaw26.LeaseEncoding', WHERE WHAT IT READS IS OF BULK AT MOST 1048576: true; the input reads as it did. -/
def leaseEncodingUptoRow : OpenClaim := { program := "ytmdconcbelmdpaa", sum := "d90d6c5eb43b87d4165a599b327b75c5ed5ae267df9230e358723fecea7e8f33", func := "refmesh/refmeshlaw26.LeaseEncoding", spec := "leaseEncoding", unfollowed := true, recurses := true, apart := false, narrowed := true }
def LeaseEncodingUptoSaid : Prop := leaseEncodingUptoRow.holds Try.pinned (OpenSpec.upto leaseEncodingSpec)

/-- 'refmeshlaw26.LeaseDecoding', WHERE WHAT IT READS IS OF BULK AT MOST 1048576: true; the input reads as it did. -/
def leaseDecodingUptoRow : OpenClaim := { program := "ytmdconcbelmdpaa", sum := "d90d6c5eb43b87d4165a599b327b75c5ed5ae267df9230e358723fecea7e8f33", func := "refmesh/refmeshlaw26.LeaseDecoding", spec := "leaseDecoding", unfollowed := true, recurses := true, apart := false, narrowed := true }
def LeaseDecodingUptoSaid : Prop := leaseDecodingUptoRow.holds Try.pinned (OpenSpec.upto leaseDecodingSpec)

end Rows
end Go.Proofs.Ytmdconcbelmdpaa
