/-
  No cell of these rows narrows 'for every input' (looked for: loops, veiled, ifaces, maps, wideKeys, modest, calm, conditions, laid).
  DERIVED. THE GIVEN ROWS OF THIS SEAT. 7 by the template 'for every input the law returns true; each argument reads behind the call as it read before'; 0 by the template 'total and deterministic' (their statements: YtkbhbpklgdmgpaaTotals.lean).
  GIVEN WITH THE SEED: the statements are not yours to turn. If you find one false, say at which input.
  Laid BY PROGRAM, IN A SANDBOX (cutbox-rows.mjs): the forced cells as the released guide's own fill.sh prints them over the translation ac314f718f78365a… (all of the seat's roots in one cut). By AI agents, Wed Nov 11 2026. No macro, syntax, notation, axiom, sorry.
-/
import Derived.Test.YtkbhbpklgdmgpaaChecked
import GoSem.Claim
import GoSem.ClaimJoined
import GoSem.ClaimMapViews
import Derived.JoinedTies
import Derived.KernelRfl
namespace Go.Proofs.Ytkbhbpklgdmgpaa
/- THE CELL 'sum', in the pinned program and in every row, IS THE sha256 OF THE DUMP (.gsa) THAT YtkbhbpklgdmgpaaProg.lean LOADS. Nothing in Lean hashes anything: it is a label: what it is worth is what the hold of that sum in a sandbox is worth. -/
noncomputable def Try.pinned : Pinned := { name := "ytkbhbpklgdmgpaa", sum := "ac314f718f78365a42cc4802b587706c61f94daac1e8259f44931a2b75662f48", checked := Try.checked }
namespace Rows
def none {H : Type} : Left H := { results := [], args := [] }

/-- 'refmeshlaw02.WirePrefixes': WHATEVER THE INPUT: true; the input reads as it did. -/
def wirePrefixesSpec : ChangeSpec := { name := "wirePrefixes", fn := fun _ => fun
  | [d1, d2] => { results := [.lit (.bool true)], args := [d1, d2] }
  | _ => none }
def wirePrefixesRow : OpenClaim := { program := "ytkbhbpklgdmgpaa", sum := "ac314f718f78365a42cc4802b587706c61f94daac1e8259f44931a2b75662f48", func := "refmesh/refmeshlaw02.WirePrefixes", spec := "wirePrefixes", unfollowed := true, recurses := true, apart := false }
def WirePrefixesSaid : Prop := wirePrefixesRow.holds Try.pinned (OpenSpec.ofChange wirePrefixesSpec)

/-- ITS FALSE NEIGHBOUR: 'it returns false'. Refute it at one input. -/
def wirePrefixesWrong : ChangeSpec := { name := "wirePrefixes", fn := fun _ => fun
  | [d1, d2] => { results := [.lit (.bool false)], args := [d1, d2] }
  | _ => none }
def WirePrefixesWrongFalsely : Prop := wirePrefixesRow.holds Try.pinned (OpenSpec.ofChange wirePrefixesWrong)

/-- 'refmeshlaw02.WireAppends': WHATEVER THE INPUT: true; the input reads as it did. -/
def wireAppendsSpec : ChangeSpec := { name := "wireAppends", fn := fun _ => fun
  | [d1, d2] => { results := [.lit (.bool true)], args := [d1, d2] }
  | _ => none }
def wireAppendsRow : OpenClaim := { program := "ytkbhbpklgdmgpaa", sum := "ac314f718f78365a42cc4802b587706c61f94daac1e8259f44931a2b75662f48", func := "refmesh/refmeshlaw02.WireAppends", spec := "wireAppends", unfollowed := true, recurses := true, apart := false }
def WireAppendsSaid : Prop := wireAppendsRow.holds Try.pinned (OpenSpec.ofChange wireAppendsSpec)

/-- ITS FALSE NEIGHBOUR: 'it returns false'. Refute it at one input. -/
def wireAppendsWrong : ChangeSpec := { name := "wireAppends", fn := fun _ => fun
  | [d1, d2] => { results := [.lit (.bool false)], args := [d1, d2] }
  | _ => none }
def WireAppendsWrongFalsely : Prop := wireAppendsRow.holds Try.pinned (OpenSpec.ofChange wireAppendsWrong)

/-- 'refmeshlaw02.WireLimits': WHATEVER THE INPUT: true; the input reads as it did. -/
def wireLimitsSpec : ChangeSpec := { name := "wireLimits", fn := fun _ => fun
  | [d1, d2, d3, d4] => { results := [.lit (.bool true)], args := [d1, d2, d3, d4] }
  | _ => none }
def wireLimitsRow : OpenClaim := { program := "ytkbhbpklgdmgpaa", sum := "ac314f718f78365a42cc4802b587706c61f94daac1e8259f44931a2b75662f48", func := "refmesh/refmeshlaw02.WireLimits", spec := "wireLimits", unfollowed := true, recurses := true, apart := false }
def WireLimitsSaid : Prop := wireLimitsRow.holds Try.pinned (OpenSpec.ofChange wireLimitsSpec)

/-- ITS FALSE NEIGHBOUR: 'it returns false'. Refute it at one input. -/
def wireLimitsWrong : ChangeSpec := { name := "wireLimits", fn := fun _ => fun
  | [d1, d2, d3, d4] => { results := [.lit (.bool false)], args := [d1, d2, d3, d4] }
  | _ => none }
def WireLimitsWrongFalsely : Prop := wireLimitsRow.holds Try.pinned (OpenSpec.ofChange wireLimitsWrong)

/-- 'refmeshlaw02.WireReads': WHATEVER THE INPUT: true; the input reads as it did. -/
def wireReadsSpec : ChangeSpec := { name := "wireReads", fn := fun _ => fun
  | [d1, d2, d3] => { results := [.lit (.bool true)], args := [d1, d2, d3] }
  | _ => none }
def wireReadsRow : OpenClaim := { program := "ytkbhbpklgdmgpaa", sum := "ac314f718f78365a42cc4802b587706c61f94daac1e8259f44931a2b75662f48", func := "refmesh/refmeshlaw02.WireReads", spec := "wireReads", unfollowed := true, recurses := true, apart := false }
def WireReadsSaid : Prop := wireReadsRow.holds Try.pinned (OpenSpec.ofChange wireReadsSpec)

/-- ITS FALSE NEIGHBOUR: 'it returns false'. Refute it at one input. -/
def wireReadsWrong : ChangeSpec := { name := "wireReads", fn := fun _ => fun
  | [d1, d2, d3] => { results := [.lit (.bool false)], args := [d1, d2, d3] }
  | _ => none }
def WireReadsWrongFalsely : Prop := wireReadsRow.holds Try.pinned (OpenSpec.ofChange wireReadsWrong)

/-- 'refmeshlaw02.WireFailure': WHATEVER THE INPUT: true; the input reads as it did. -/
def wireFailureSpec : ChangeSpec := { name := "wireFailure", fn := fun _ => fun
  | [d1, d2, d3] => { results := [.lit (.bool true)], args := [d1, d2, d3] }
  | _ => none }
def wireFailureRow : OpenClaim := { program := "ytkbhbpklgdmgpaa", sum := "ac314f718f78365a42cc4802b587706c61f94daac1e8259f44931a2b75662f48", func := "refmesh/refmeshlaw02.WireFailure", spec := "wireFailure", unfollowed := true, recurses := true, apart := false }
def WireFailureSaid : Prop := wireFailureRow.holds Try.pinned (OpenSpec.ofChange wireFailureSpec)

/-- ITS FALSE NEIGHBOUR: 'it returns false'. Refute it at one input. -/
def wireFailureWrong : ChangeSpec := { name := "wireFailure", fn := fun _ => fun
  | [d1, d2, d3] => { results := [.lit (.bool false)], args := [d1, d2, d3] }
  | _ => none }
def WireFailureWrongFalsely : Prop := wireFailureRow.holds Try.pinned (OpenSpec.ofChange wireFailureWrong)

/-- 'refmeshlaw02.WireRoundTrip': WHATEVER THE INPUT: true; the input reads as it did. -/
def wireRoundTripSpec : ChangeSpec := { name := "wireRoundTrip", fn := fun _ => fun
  | [d] => { results := [.lit (.bool true)], args := [d] }
  | _ => none }
def wireRoundTripRow : OpenClaim := { program := "ytkbhbpklgdmgpaa", sum := "ac314f718f78365a42cc4802b587706c61f94daac1e8259f44931a2b75662f48", func := "refmesh/refmeshlaw02.WireRoundTrip", spec := "wireRoundTrip", unfollowed := true, recurses := true, apart := false }
def WireRoundTripSaid : Prop := wireRoundTripRow.holds Try.pinned (OpenSpec.ofChange wireRoundTripSpec)

/-- ITS FALSE NEIGHBOUR: 'it returns false'. Refute it at one input. -/
def wireRoundTripWrong : ChangeSpec := { name := "wireRoundTrip", fn := fun _ => fun
  | [d] => { results := [.lit (.bool false)], args := [d] }
  | _ => none }
def WireRoundTripWrongFalsely : Prop := wireRoundTripRow.holds Try.pinned (OpenSpec.ofChange wireRoundTripWrong)

/-- 'refmeshlaw02.WireCanonical': WHATEVER THE INPUT: true; the input reads as it did. -/
def wireCanonicalSpec : ChangeSpec := { name := "wireCanonical", fn := fun _ => fun
  | [d1, d2] => { results := [.lit (.bool true)], args := [d1, d2] }
  | _ => none }
def wireCanonicalRow : OpenClaim := { program := "ytkbhbpklgdmgpaa", sum := "ac314f718f78365a42cc4802b587706c61f94daac1e8259f44931a2b75662f48", func := "refmesh/refmeshlaw02.WireCanonical", spec := "wireCanonical", unfollowed := true, recurses := true, apart := false }
def WireCanonicalSaid : Prop := wireCanonicalRow.holds Try.pinned (OpenSpec.ofChange wireCanonicalSpec)

/-- ITS FALSE NEIGHBOUR: 'it returns false'. Refute it at one input. -/
def wireCanonicalWrong : ChangeSpec := { name := "wireCanonical", fn := fun _ => fun
  | [d1, d2] => { results := [.lit (.bool false)], args := [d1, d2] }
  | _ => none }
def WireCanonicalWrongFalsely : Prop := wireCanonicalRow.holds Try.pinned (OpenSpec.ofChange wireCanonicalWrong)

/- THE SECOND FORM. 'bulk': how many values and letters a reading holds, each counted each time it is reached (what is shared counts as often as it is met; a slice's spare places count too). A statement '..UptoSaid' is the law's where the arguments, and the package variables that the reading takes, are together of bulk at most 1048576: NARROWER than '..Said'. Prove '..Said' where nothing that the law and all that it calls make is longer than what came in: it says more and counts as full. Else prove '..UptoSaid'. A law counts once. -/
mutual
def uptoBulk {H : Type} : DataW H → Nat
  | .lit (.string bytes) => bytes.length + 1
  | .lit _ => 1
  | .nil => 1
  | .ptr d => uptoBulk d + 1
  | .slice elems spare => uptoBulkAll elems + uptoBulkAll spare + 1
  | .agg parts => uptoBulkAll parts + 1
  | .iface _ d => uptoBulk d + 1
  | .map entries => uptoBulkEntries entries + 1
  | .held _ => 1
def uptoBulkAll {H : Type} : List (DataW H) → Nat
  | [] => 0
  | d :: r => uptoBulk d + uptoBulkAll r
def uptoBulkEntries {H : Type} : List (Lit × DataW H) → Nat
  | [] => 0
  | x :: r => uptoBulkEntry x + uptoBulkEntries r
def uptoBulkEntry {H : Type} : Lit × DataW H → Nat
  | (.string bytes, d) => bytes.length + uptoBulk d + 1
  | (_, d) => uptoBulk d + 1
 end
def uptoSmall : (H : Type) → List (DataW H) → Bool := fun _ ds => decide (uptoBulkAll ds ≤ 1048576)
def OpenSpec.upto (s : _root_.Go.ChangeSpec) : _root_.Go.OpenSpec := { _root_.Go.OpenSpec.ofChange s with cond := some uptoSmall }

/-- 'refmeshlaw02.WirePrefixes', WHERE WHAT IT READS IS OF BULK AT MOST 1048576: true; the input reads as it did. -/
def wirePrefixesUptoRow : OpenClaim := { program := "ytkbhbpklgdmgpaa", sum := "ac314f718f78365a42cc4802b587706c61f94daac1e8259f44931a2b75662f48", func := "refmesh/refmeshlaw02.WirePrefixes", spec := "wirePrefixes", unfollowed := true, recurses := true, apart := false, narrowed := true }
def WirePrefixesUptoSaid : Prop := wirePrefixesUptoRow.holds Try.pinned (OpenSpec.upto wirePrefixesSpec)

/-- 'refmeshlaw02.WireAppends', WHERE WHAT IT READS IS OF BULK AT MOST 1048576: true; the input reads as it did. -/
def wireAppendsUptoRow : OpenClaim := { program := "ytkbhbpklgdmgpaa", sum := "ac314f718f78365a42cc4802b587706c61f94daac1e8259f44931a2b75662f48", func := "refmesh/refmeshlaw02.WireAppends", spec := "wireAppends", unfollowed := true, recurses := true, apart := false, narrowed := true }
def WireAppendsUptoSaid : Prop := wireAppendsUptoRow.holds Try.pinned (OpenSpec.upto wireAppendsSpec)

/-- 'refmeshlaw02.WireLimits', WHERE WHAT IT READS IS OF BULK AT MOST 1048576: true; the input reads as it did. -/
def wireLimitsUptoRow : OpenClaim := { program := "ytkbhbpklgdmgpaa", sum := "ac314f718f78365a42cc4802b587706c61f94daac1e8259f44931a2b75662f48", func := "refmesh/refmeshlaw02.WireLimits", spec := "wireLimits", unfollowed := true, recurses := true, apart := false, narrowed := true }
def WireLimitsUptoSaid : Prop := wireLimitsUptoRow.holds Try.pinned (OpenSpec.upto wireLimitsSpec)

/-- 'refmeshlaw02.WireReads', WHERE WHAT IT READS IS OF BULK AT MOST 1048576: true; the input reads as it did. -/
def wireReadsUptoRow : OpenClaim := { program := "ytkbhbpklgdmgpaa", sum := "ac314f718f78365a42cc4802b587706c61f94daac1e8259f44931a2b75662f48", func := "refmesh/refmeshlaw02.WireReads", spec := "wireReads", unfollowed := true, recurses := true, apart := false, narrowed := true }
def WireReadsUptoSaid : Prop := wireReadsUptoRow.holds Try.pinned (OpenSpec.upto wireReadsSpec)

/-- 'refmeshlaw02.WireFailure', WHERE WHAT IT READS IS OF BULK AT MOST 1048576: true; the input reads as it did. -/
def wireFailureUptoRow : OpenClaim := { program := "ytkbhbpklgdmgpaa", sum := "ac314f718f78365a42cc4802b587706c61f94daac1e8259f44931a2b75662f48", func := "refmesh/refmeshlaw02.WireFailure", spec := "wireFailure", unfollowed := true, recurses := true, apart := false, narrowed := true }
def WireFailureUptoSaid : Prop := wireFailureUptoRow.holds Try.pinned (OpenSpec.upto wireFailureSpec)

/-- 'refmeshlaw02.WireRoundTrip', WHERE WHAT IT READS IS OF BULK AT MOST 1048576: true; the input reads as it did. -/
def wireRoundTripUptoRow : OpenClaim := { program := "ytkbhbpklgdmgpaa", sum := "ac314f718f78365a42cc4802b587706c61f94daac1e8259f44931a2b75662f48", func := "refmesh/refmeshlaw02.WireRoundTrip", spec := "wireRoundTrip", unfollowed := true, recurses := true, apart := false, narrowed := true }
def WireRoundTripUptoSaid : Prop := wireRoundTripUptoRow.holds Try.pinned (OpenSpec.upto wireRoundTripSpec)

/-- 'refmeshlaw02.WireCanonical', WHERE WHAT IT READS IS OF BULK AT MOST 1048576: true; the input reads as it did. -/
def wireCanonicalUptoRow : OpenClaim := { program := "ytkbhbpklgdmgpaa", sum := "ac314f718f78365a42cc4802b587706c61f94daac1e8259f44931a2b75662f48", func := "refmesh/refmeshlaw02.WireCanonical", spec := "wireCanonical", unfollowed := true, recurses := true, apart := false, narrowed := true }
def WireCanonicalUptoSaid : Prop := wireCanonicalUptoRow.holds Try.pinned (OpenSpec.upto wireCanonicalSpec)

end Rows
end Go.Proofs.Ytkbhbpklgdmgpaa
