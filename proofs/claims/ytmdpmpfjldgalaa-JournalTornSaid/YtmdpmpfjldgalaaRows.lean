/-
  No cell of these rows narrows 'for every input' (looked for: loops, veiled, ifaces, maps, wideKeys, modest, calm, conditions, laid).
  DERIVED. THE GIVEN ROWS OF THIS SEAT. 7 by the template 'for every input the law returns true; each argument reads behind the call as it read before'; 0 by the template 'total and deterministic' (their statements: YtmdpmpfjldgalaaTotals.lean).
  GIVEN WITH THE SEED: the statements are not yours to turn. If you find one false, say at which input.
  Laid BY PROGRAM, IN A SANDBOX (cutbox-rows.mjs): the forced cells as the released guide's own fill.sh prints them over the translation 17ffe5dda082b1ba… (all of the seat's roots in one cut). By AI agents, Wed Nov 11 2026. No macro, syntax, notation, axiom, sorry.
-/
import Derived.Test.YtmdpmpfjldgalaaChecked
import GoSem.Claim
import GoSem.ClaimJoined
import GoSem.ClaimMapViews
import Derived.JoinedTies
import Derived.KernelRfl
namespace Go.Proofs.Ytmdpmpfjldgalaa
/- THE CELL 'sum', in the pinned program and in every row, IS THE sha256 OF THE DUMP (.gsa) THAT YtmdpmpfjldgalaaProg.lean LOADS. Nothing in Lean hashes anything: it is a label: what it is worth is what the hold of that sum in a sandbox is worth. -/
noncomputable def Try.pinned : Pinned := { name := "ytmdpmpfjldgalaa", sum := "17ffe5dda082b1ba618b67377c515e3238bd59b03072393ea2147c25332adf95", checked := Try.checked }
namespace Rows
def none {H : Type} : Left H := { results := [], args := [] }

/-- 'refmeshlaw20.JournalCalls': WHATEVER THE INPUT: true; the input reads as it did. -/
def journalCallsSpec : ChangeSpec := { name := "journalCalls", fn := fun _ => fun
  | [d1, d2] => { results := [.lit (.bool true)], args := [d1, d2] }
  | _ => none }
def journalCallsRow : OpenClaim := { program := "ytmdpmpfjldgalaa", sum := "17ffe5dda082b1ba618b67377c515e3238bd59b03072393ea2147c25332adf95", func := "refmesh/refmeshlaw20.JournalCalls", spec := "journalCalls", unfollowed := true, recurses := true, apart := false }
def JournalCallsSaid : Prop := journalCallsRow.holds Try.pinned (OpenSpec.ofChange journalCallsSpec)

/-- ITS FALSE NEIGHBOUR: 'it returns false'. Refute it at one input. -/
def journalCallsWrong : ChangeSpec := { name := "journalCalls", fn := fun _ => fun
  | [d1, d2] => { results := [.lit (.bool false)], args := [d1, d2] }
  | _ => none }
def JournalCallsWrongFalsely : Prop := journalCallsRow.holds Try.pinned (OpenSpec.ofChange journalCallsWrong)

/-- 'refmeshlaw20.JournalOpens': WHATEVER THE INPUT: true; the input reads as it did. -/
def journalOpensSpec : ChangeSpec := { name := "journalOpens", fn := fun _ => fun
  | [d1, d2, d3] => { results := [.lit (.bool true)], args := [d1, d2, d3] }
  | _ => none }
def journalOpensRow : OpenClaim := { program := "ytmdpmpfjldgalaa", sum := "17ffe5dda082b1ba618b67377c515e3238bd59b03072393ea2147c25332adf95", func := "refmesh/refmeshlaw20.JournalOpens", spec := "journalOpens", unfollowed := true, recurses := true, apart := false }
def JournalOpensSaid : Prop := journalOpensRow.holds Try.pinned (OpenSpec.ofChange journalOpensSpec)

/-- ITS FALSE NEIGHBOUR: 'it returns false'. Refute it at one input. -/
def journalOpensWrong : ChangeSpec := { name := "journalOpens", fn := fun _ => fun
  | [d1, d2, d3] => { results := [.lit (.bool false)], args := [d1, d2, d3] }
  | _ => none }
def JournalOpensWrongFalsely : Prop := journalOpensRow.holds Try.pinned (OpenSpec.ofChange journalOpensWrong)

/-- 'refmeshlaw20.JournalDurable': WHATEVER THE INPUT: true; the input reads as it did. -/
def journalDurableSpec : ChangeSpec := { name := "journalDurable", fn := fun _ => fun
  | [d1, d2, d3] => { results := [.lit (.bool true)], args := [d1, d2, d3] }
  | _ => none }
def journalDurableRow : OpenClaim := { program := "ytmdpmpfjldgalaa", sum := "17ffe5dda082b1ba618b67377c515e3238bd59b03072393ea2147c25332adf95", func := "refmesh/refmeshlaw20.JournalDurable", spec := "journalDurable", unfollowed := true, recurses := true, apart := false }
def JournalDurableSaid : Prop := journalDurableRow.holds Try.pinned (OpenSpec.ofChange journalDurableSpec)

/-- ITS FALSE NEIGHBOUR: 'it returns false'. Refute it at one input. -/
def journalDurableWrong : ChangeSpec := { name := "journalDurable", fn := fun _ => fun
  | [d1, d2, d3] => { results := [.lit (.bool false)], args := [d1, d2, d3] }
  | _ => none }
def JournalDurableWrongFalsely : Prop := journalDurableRow.holds Try.pinned (OpenSpec.ofChange journalDurableWrong)

/-- 'refmeshlaw20.JournalTorn': WHATEVER THE INPUT: true; the input reads as it did. -/
def journalTornSpec : ChangeSpec := { name := "journalTorn", fn := fun _ => fun
  | [d1, d2, d3, d4, d5] => { results := [.lit (.bool true)], args := [d1, d2, d3, d4, d5] }
  | _ => none }
def journalTornRow : OpenClaim := { program := "ytmdpmpfjldgalaa", sum := "17ffe5dda082b1ba618b67377c515e3238bd59b03072393ea2147c25332adf95", func := "refmesh/refmeshlaw20.JournalTorn", spec := "journalTorn", unfollowed := true, recurses := true, apart := false }
def JournalTornSaid : Prop := journalTornRow.holds Try.pinned (OpenSpec.ofChange journalTornSpec)

/-- ITS FALSE NEIGHBOUR: 'it returns false'. Refute it at one input. -/
def journalTornWrong : ChangeSpec := { name := "journalTorn", fn := fun _ => fun
  | [d1, d2, d3, d4, d5] => { results := [.lit (.bool false)], args := [d1, d2, d3, d4, d5] }
  | _ => none }
def JournalTornWrongFalsely : Prop := journalTornRow.holds Try.pinned (OpenSpec.ofChange journalTornWrong)

/-- 'refmeshlaw20.JournalRoom': WHATEVER THE INPUT: true; the input reads as it did. -/
def journalRoomSpec : ChangeSpec := { name := "journalRoom", fn := fun _ => fun
  | [d1, d2, d3] => { results := [.lit (.bool true)], args := [d1, d2, d3] }
  | _ => none }
def journalRoomRow : OpenClaim := { program := "ytmdpmpfjldgalaa", sum := "17ffe5dda082b1ba618b67377c515e3238bd59b03072393ea2147c25332adf95", func := "refmesh/refmeshlaw20.JournalRoom", spec := "journalRoom", unfollowed := true, recurses := true, apart := false }
def JournalRoomSaid : Prop := journalRoomRow.holds Try.pinned (OpenSpec.ofChange journalRoomSpec)

/-- ITS FALSE NEIGHBOUR: 'it returns false'. Refute it at one input. -/
def journalRoomWrong : ChangeSpec := { name := "journalRoom", fn := fun _ => fun
  | [d1, d2, d3] => { results := [.lit (.bool false)], args := [d1, d2, d3] }
  | _ => none }
def JournalRoomWrongFalsely : Prop := journalRoomRow.holds Try.pinned (OpenSpec.ofChange journalRoomWrong)

/-- 'refmeshlaw20.JournalCheckpoints': WHATEVER THE INPUT: true; the input reads as it did. -/
def journalCheckpointsSpec : ChangeSpec := { name := "journalCheckpoints", fn := fun _ => fun
  | [d1, d2, d3, d4, d5] => { results := [.lit (.bool true)], args := [d1, d2, d3, d4, d5] }
  | _ => none }
def journalCheckpointsRow : OpenClaim := { program := "ytmdpmpfjldgalaa", sum := "17ffe5dda082b1ba618b67377c515e3238bd59b03072393ea2147c25332adf95", func := "refmesh/refmeshlaw20.JournalCheckpoints", spec := "journalCheckpoints", unfollowed := true, recurses := true, apart := false }
def JournalCheckpointsSaid : Prop := journalCheckpointsRow.holds Try.pinned (OpenSpec.ofChange journalCheckpointsSpec)

/-- ITS FALSE NEIGHBOUR: 'it returns false'. Refute it at one input. -/
def journalCheckpointsWrong : ChangeSpec := { name := "journalCheckpoints", fn := fun _ => fun
  | [d1, d2, d3, d4, d5] => { results := [.lit (.bool false)], args := [d1, d2, d3, d4, d5] }
  | _ => none }
def JournalCheckpointsWrongFalsely : Prop := journalCheckpointsRow.holds Try.pinned (OpenSpec.ofChange journalCheckpointsWrong)

/-- 'refmeshlaw20.JournalReopens': WHATEVER THE INPUT: true; the input reads as it did. -/
def journalReopensSpec : ChangeSpec := { name := "journalReopens", fn := fun _ => fun
  | [d1, d2] => { results := [.lit (.bool true)], args := [d1, d2] }
  | _ => none }
def journalReopensRow : OpenClaim := { program := "ytmdpmpfjldgalaa", sum := "17ffe5dda082b1ba618b67377c515e3238bd59b03072393ea2147c25332adf95", func := "refmesh/refmeshlaw20.JournalReopens", spec := "journalReopens", unfollowed := true, recurses := true, apart := false }
def JournalReopensSaid : Prop := journalReopensRow.holds Try.pinned (OpenSpec.ofChange journalReopensSpec)

/-- ITS FALSE NEIGHBOUR: 'it returns false'. Refute it at one input. -/
def journalReopensWrong : ChangeSpec := { name := "journalReopens", fn := fun _ => fun
  | [d1, d2] => { results := [.lit (.bool false)], args := [d1, d2] }
  | _ => none }
def JournalReopensWrongFalsely : Prop := journalReopensRow.holds Try.pinned (OpenSpec.ofChange journalReopensWrong)

/- THE SECOND FORM. 'bulk': how many values and letters a reading holds, each counted each time it is reached (what is shared counts as often as it is met; a slice's spare places count too). A statement '..UptoSaid' is the law's where the arguments, and the package variables that the reading takes, are together of bulk at most 1048576: NARROWER than '..Said'. Prove '..Said' where nothing that the law and all that it calls make is longer than what came in: it says more and counts as full. Else prove '..UptoSaid'. A law counts once. -/
mutual
def uptoBulk {H : Type} : DataW H → Nat
  | .lit (.string bytes) => bytes.length + 1
  | .lit _ => 1
  | .nil => 1
  | .ptr d => uptoBulk d + 1
  | .slice elems spare => uptoBulkAll elems + uptoBulkAll spare + 1
  | .agg parts => uptoBulkAll parts + 1
  | .iface _ d => uptoBulk d + 1
  | .map entries => uptoBulkEntries entries + 1
  | .held _ => 1
def uptoBulkAll {H : Type} : List (DataW H) → Nat
  | [] => 0
  | d :: r => uptoBulk d + uptoBulkAll r
def uptoBulkEntries {H : Type} : List (Lit × DataW H) → Nat
  | [] => 0
  | x :: r => uptoBulkEntry x + uptoBulkEntries r
def uptoBulkEntry {H : Type} : Lit × DataW H → Nat
  | (.string bytes, d) => bytes.length + uptoBulk d + 1
  | (_, d) => uptoBulk d + 1
 end
def uptoSmall : (H : Type) → List (DataW H) → Bool := fun _ ds => decide (uptoBulkAll ds ≤ 1048576)
def OpenSpec.upto (s : _root_.Go.ChangeSpec) : _root_.Go.OpenSpec := { _root_.Go.OpenSpec.ofChange s with cond := some uptoSmall }

/-- 'refmeshlaw20.JournalCalls', WHERE WHAT IT READS IS OF BULK AT MOST 1048576: true; the input reads as it did. -/
def journalCallsUptoRow : OpenClaim := { program := "ytmdpmpfjldgalaa", sum := "17ffe5dda082b1ba618b67377c515e3238bd59b03072393ea2147c25332adf95", func := "refmesh/refmeshlaw20.JournalCalls", spec := "journalCalls", unfollowed := true, recurses := true, apart := false, narrowed := true }
def JournalCallsUptoSaid : Prop := journalCallsUptoRow.holds Try.pinned (OpenSpec.upto journalCallsSpec)

/-- 'refmeshlaw20.JournalOpens', WHERE WHAT IT READS IS OF BULK AT MOST 1048576: true; the input reads as it did. -/
def journalOpensUptoRow : OpenClaim := { program := "ytmdpmpfjldgalaa", sum := "17ffe5dda082b1ba618b67377c515e3238bd59b03072393ea2147c25332adf95", func := "refmesh/refmeshlaw20.JournalOpens", spec := "journalOpens", unfollowed := true, recurses := true, apart := false, narrowed := true }
def JournalOpensUptoSaid : Prop := journalOpensUptoRow.holds Try.pinned (OpenSpec.upto journalOpensSpec)

/-- 'refmeshlaw20.JournalDurable', WHERE WHAT IT READS IS OF BULK AT MOST 1048576: true; the input reads as it did. -/
def journalDurableUptoRow : OpenClaim := { program := "ytmdpmpfjldgalaa", sum := "17ffe5dda082b1ba618b67377c515e3238bd59b03072393ea2147c25332adf95", func := "refmesh/refmeshlaw20.JournalDurable", spec := "journalDurable", unfollowed := true, recurses := true, apart := false, narrowed := true }
def JournalDurableUptoSaid : Prop := journalDurableUptoRow.holds Try.pinned (OpenSpec.upto journalDurableSpec)

/-- 'refmeshlaw20.JournalTorn', WHERE WHAT IT READS IS OF BULK AT MOST 1048576: true; the input reads as it did. -/
def journalTornUptoRow : OpenClaim := { program := "ytmdpmpfjldgalaa", sum := "17ffe5dda082b1ba618b67377c515e3238bd59b03072393ea2147c25332adf95", func := "refmesh/refmeshlaw20.JournalTorn", spec := "journalTorn", unfollowed := true, recurses := true, apart := false, narrowed := true }
def JournalTornUptoSaid : Prop := journalTornUptoRow.holds Try.pinned (OpenSpec.upto journalTornSpec)

/-- 'refmeshlaw20.JournalRoom', WHERE WHAT IT READS IS OF BULK AT MOST 1048576: true; the input reads as it did. -/
def journalRoomUptoRow : OpenClaim := { program := "ytmdpmpfjldgalaa", sum := "17ffe5dda082b1ba618b67377c515e3238bd59b03072393ea2147c25332adf95", func := "refmesh/refmeshlaw20.JournalRoom", spec := "journalRoom", unfollowed := true, recurses := true, apart := false, narrowed := true }
def JournalRoomUptoSaid : Prop := journalRoomUptoRow.holds Try.pinned (OpenSpec.upto journalRoomSpec)

/-- 'refmeshlaw20.JournalCheckpoints', WHERE WHAT IT READS IS OF BULK AT MOST 1048576: true; the input reads as it did. -/
def journalCheckpointsUptoRow : OpenClaim := { program := "ytmdpmpfjldgalaa", sum := "17ffe5dda082b1ba618b67377c515e3238bd59b03072393ea2147c25332adf95", func := "refmesh/refmeshlaw20.JournalCheckpoints", spec := "journalCheckpoints", unfollowed := true, recurses := true, apart := false, narrowed := true }
def JournalCheckpointsUptoSaid : Prop := journalCheckpointsUptoRow.holds Try.pinned (OpenSpec.upto journalCheckpointsSpec)

/-- 'refmeshlaw20.JournalReopens', WHERE WHAT IT READS IS OF BULK AT MOST 1048576: true; the input reads as it did. -/
def journalReopensUptoRow : OpenClaim := { program := "ytmdpmpfjldgalaa", sum := "17ffe5dda082b1ba618b67377c515e3238bd59b03072393ea2147c25332adf95", func := "refmesh/refmeshlaw20.JournalReopens", spec := "journalReopens", unfollowed := true, recurses := true, apart := false, narrowed := true }
def JournalReopensUptoSaid : Prop := journalReopensUptoRow.holds Try.pinned (OpenSpec.upto journalReopensSpec)

end Rows
end Go.Proofs.Ytmdpmpfjldgalaa
