/-
  No cell of these rows narrows 'for every input' (looked for: loops, veiled, ifaces, maps, wideKeys, modest, calm, conditions, laid).
  DERIVED. THE GIVEN ROWS OF THIS SEAT. 5 by the template 'for every input the law returns true; each argument reads behind the call as it read before'; 0 by the template 'total and deterministic' (their statements: YtoallpinpeolfaaTotals.lean).
  GIVEN WITH THE SEED: the statements are not yours to turn. If you find one false, say at which input.
  Laid BY PROGRAM, IN A SANDBOX (cutbox-rows.mjs): the forced cells as the released guide's own fill.sh prints them over the translation 23b830d65a5416e0… (all of the seat's roots in one cut). By AI agents, Wed Nov 11 2026. No macro, syntax, notation, axiom, sorry.
-/
import Derived.Test.YtoallpinpeolfaaChecked
import GoSem.Claim
import GoSem.ClaimJoined
import GoSem.ClaimMapViews
import Derived.JoinedTies
import Derived.KernelRfl
namespace Go.Proofs.Ytoallpinpeolfaa
/- THE CELL 'sum', in the pinned program and in every row, IS THE sha256 OF THE DUMP (.gsa) THAT YtoallpinpeolfaaProg.lean LOADS. Nothing in Lean hashes anything: it is a label: what it is worth is what the hold of that sum in a sandbox is worth. -/
noncomputable def Try.pinned : Pinned := { name := "ytoallpinpeolfaa", sum := "23b830d65a5416e0487a294d804d28471791150ddd67fbcc812dd59012d75226", checked := Try.checked }
namespace Rows
def none {H : Type} : Left H := { results := [], args := [] }

/-- 'refmeshlaw19.DiskTorn': WHATEVER THE INPUT: true; the input reads as it did. -/
def diskTornSpec : ChangeSpec := { name := "diskTorn", fn := fun _ => fun
  | [d1, d2] => { results := [.lit (.bool true)], args := [d1, d2] }
  | _ => none }
def diskTornRow : OpenClaim := { program := "ytoallpinpeolfaa", sum := "23b830d65a5416e0487a294d804d28471791150ddd67fbcc812dd59012d75226", func := "refmesh/refmeshlaw19.DiskTorn", spec := "diskTorn", unfollowed := true, recurses := true, apart := false }
def DiskTornSaid : Prop := diskTornRow.holds Try.pinned (OpenSpec.ofChange diskTornSpec)

/-- ITS FALSE NEIGHBOUR: 'it returns false'. Refute it at one input. -/
def diskTornWrong : ChangeSpec := { name := "diskTorn", fn := fun _ => fun
  | [d1, d2] => { results := [.lit (.bool false)], args := [d1, d2] }
  | _ => none }
def DiskTornWrongFalsely : Prop := diskTornRow.holds Try.pinned (OpenSpec.ofChange diskTornWrong)

/-- 'refmeshlaw19.DiskDurable': WHATEVER THE INPUT: true; the input reads as it did. -/
def diskDurableSpec : ChangeSpec := { name := "diskDurable", fn := fun _ => fun
  | [d1, d2, d3] => { results := [.lit (.bool true)], args := [d1, d2, d3] }
  | _ => none }
def diskDurableRow : OpenClaim := { program := "ytoallpinpeolfaa", sum := "23b830d65a5416e0487a294d804d28471791150ddd67fbcc812dd59012d75226", func := "refmesh/refmeshlaw19.DiskDurable", spec := "diskDurable", unfollowed := true, recurses := true, apart := false }
def DiskDurableSaid : Prop := diskDurableRow.holds Try.pinned (OpenSpec.ofChange diskDurableSpec)

/-- ITS FALSE NEIGHBOUR: 'it returns false'. Refute it at one input. -/
def diskDurableWrong : ChangeSpec := { name := "diskDurable", fn := fun _ => fun
  | [d1, d2, d3] => { results := [.lit (.bool false)], args := [d1, d2, d3] }
  | _ => none }
def DiskDurableWrongFalsely : Prop := diskDurableRow.holds Try.pinned (OpenSpec.ofChange diskDurableWrong)

/-- 'refmeshlaw19.DiskSurvives': WHATEVER THE INPUT: true; the input reads as it did. -/
def diskSurvivesSpec : ChangeSpec := { name := "diskSurvives", fn := fun _ => fun
  | [d] => { results := [.lit (.bool true)], args := [d] }
  | _ => none }
def diskSurvivesRow : OpenClaim := { program := "ytoallpinpeolfaa", sum := "23b830d65a5416e0487a294d804d28471791150ddd67fbcc812dd59012d75226", func := "refmesh/refmeshlaw19.DiskSurvives", spec := "diskSurvives", unfollowed := true, recurses := true, apart := false }
def DiskSurvivesSaid : Prop := diskSurvivesRow.holds Try.pinned (OpenSpec.ofChange diskSurvivesSpec)

/-- ITS FALSE NEIGHBOUR: 'it returns false'. Refute it at one input. -/
def diskSurvivesWrong : ChangeSpec := { name := "diskSurvives", fn := fun _ => fun
  | [d] => { results := [.lit (.bool false)], args := [d] }
  | _ => none }
def DiskSurvivesWrongFalsely : Prop := diskSurvivesRow.holds Try.pinned (OpenSpec.ofChange diskSurvivesWrong)

/-- 'refmeshlaw19.DiskFuses': WHATEVER THE INPUT: true; the input reads as it did. -/
def diskFusesSpec : ChangeSpec := { name := "diskFuses", fn := fun _ => fun
  | [d1, d2] => { results := [.lit (.bool true)], args := [d1, d2] }
  | _ => none }
def diskFusesRow : OpenClaim := { program := "ytoallpinpeolfaa", sum := "23b830d65a5416e0487a294d804d28471791150ddd67fbcc812dd59012d75226", func := "refmesh/refmeshlaw19.DiskFuses", spec := "diskFuses", unfollowed := true, recurses := true, apart := false }
def DiskFusesSaid : Prop := diskFusesRow.holds Try.pinned (OpenSpec.ofChange diskFusesSpec)

/-- ITS FALSE NEIGHBOUR: 'it returns false'. Refute it at one input. -/
def diskFusesWrong : ChangeSpec := { name := "diskFuses", fn := fun _ => fun
  | [d1, d2] => { results := [.lit (.bool false)], args := [d1, d2] }
  | _ => none }
def DiskFusesWrongFalsely : Prop := diskFusesRow.holds Try.pinned (OpenSpec.ofChange diskFusesWrong)

/-- 'refmeshlaw19.DiskClones': WHATEVER THE INPUT: true; the input reads as it did. -/
def diskClonesSpec : ChangeSpec := { name := "diskClones", fn := fun _ => fun
  | [d1, d2, d3] => { results := [.lit (.bool true)], args := [d1, d2, d3] }
  | _ => none }
def diskClonesRow : OpenClaim := { program := "ytoallpinpeolfaa", sum := "23b830d65a5416e0487a294d804d28471791150ddd67fbcc812dd59012d75226", func := "refmesh/refmeshlaw19.DiskClones", spec := "diskClones", unfollowed := true, recurses := true, apart := false }
def DiskClonesSaid : Prop := diskClonesRow.holds Try.pinned (OpenSpec.ofChange diskClonesSpec)

/-- ITS FALSE NEIGHBOUR: 'it returns false'. Refute it at one input. -/
def diskClonesWrong : ChangeSpec := { name := "diskClones", fn := fun _ => fun
  | [d1, d2, d3] => { results := [.lit (.bool false)], args := [d1, d2, d3] }
  | _ => none }
def DiskClonesWrongFalsely : Prop := diskClonesRow.holds Try.pinned (OpenSpec.ofChange diskClonesWrong)

/- THE SECOND FORM. 'bulk': how many values and letters a reading holds, each counted each time it is reached (what is shared counts as often as it is met; a slice's spare places count too). A statement '..UptoSaid' is the law's where the arguments, and the package variables that the reading takes, are together of bulk at most 1048576: NARROWER than '..Said'. Prove '..Said' where nothing that the law and all that it calls make is longer than what came in: it says more and counts as full. Else prove '..UptoSaid'. A law counts once. -/
mutual
def uptoBulk {H : Type} : DataW H → Nat
  | .lit (.string bytes) => bytes.length + 1
  | .lit _ => 1
  | .nil => 1
  | .ptr d => uptoBulk d + 1
  | .slice elems spare => uptoBulkAll elems + uptoBulkAll spare + 1
  | .agg parts => uptoBulkAll parts + 1
  | .iface _ d => uptoBulk d + 1
  | .map entries => uptoBulkEntries entries + 1
  | .held _ => 1
def uptoBulkAll {H : Type} : List (DataW H) → Nat
  | [] => 0
  | d :: r => uptoBulk d + uptoBulkAll r
def uptoBulkEntries {H : Type} : List (Lit × DataW H) → Nat
  | [] => 0
  | x :: r => uptoBulkEntry x + uptoBulkEntries r
def uptoBulkEntry {H : Type} : Lit × DataW H → Nat
  | (.string bytes, d) => bytes.length + uptoBulk d + 1
  | (_, d) => uptoBulk d + 1
 end
def uptoSmall : (H : Type) → List (DataW H) → Bool := fun _ ds => decide (uptoBulkAll ds ≤ 1048576)
def OpenSpec.upto (s : _root_.Go.ChangeSpec) : _root_.Go.OpenSpec := { _root_.Go.OpenSpec.ofChange s with cond := some uptoSmall }

/-- 'refmeshlaw19.DiskTorn', WHERE WHAT IT READS IS OF BULK AT MOST 1048576: true; the input reads as it did. -/
def diskTornUptoRow : OpenClaim := { program := "ytoallpinpeolfaa", sum := "23b830d65a5416e0487a294d804d28471791150ddd67fbcc812dd59012d75226", func := "refmesh/refmeshlaw19.DiskTorn", spec := "diskTorn", unfollowed := true, recurses := true, apart := false, narrowed := true }
def DiskTornUptoSaid : Prop := diskTornUptoRow.holds Try.pinned (OpenSpec.upto diskTornSpec)

/-- 'refmeshlaw19.DiskDurable', WHERE WHAT IT READS IS OF BULK AT MOST 1048576: true; the input reads as it did. -/
def diskDurableUptoRow : OpenClaim := { program := "ytoallpinpeolfaa", sum := "23b830d65a5416e0487a294d804d28471791150ddd67fbcc812dd59012d75226", func := "refmesh/refmeshlaw19.DiskDurable", spec := "diskDurable", unfollowed := true, recurses := true, apart := false, narrowed := true }
def DiskDurableUptoSaid : Prop := diskDurableUptoRow.holds Try.pinned (OpenSpec.upto diskDurableSpec)

/-- 'refmeshlaw19.DiskSurvives', WHERE WHAT IT READS IS OF BULK AT MOST 1048576: true; the input reads as it did. -/
def diskSurvivesUptoRow : OpenClaim := { program := "ytoallpinpeolfaa", sum := "23b830d65a5416e0487a294d804d28471791150ddd67fbcc812dd59012d75226", func := "refmesh/refmeshlaw19.DiskSurvives", spec := "diskSurvives", unfollowed := true, recurses := true, apart := false, narrowed := true }
def DiskSurvivesUptoSaid : Prop := diskSurvivesUptoRow.holds Try.pinned (OpenSpec.upto diskSurvivesSpec)

/-- 'refmeshlaw19.DiskFuses', WHERE WHAT IT READS IS OF BULK AT MOST 1048576: true; the input reads as it did. -/
def diskFusesUptoRow : OpenClaim := { program := "ytoallpinpeolfaa", sum := "23b830d65a5416e0487a294d804d28471791150ddd67fbcc812dd59012d75226", func := "refmesh/refmeshlaw19.DiskFuses", spec := "diskFuses", unfollowed := true, recurses := true, apart := false, narrowed := true }
def DiskFusesUptoSaid : Prop := diskFusesUptoRow.holds Try.pinned (OpenSpec.upto diskFusesSpec)

/-- 'refmeshlaw19.DiskClones', WHERE WHAT IT READS IS OF BULK AT MOST 1048576: true; the input reads as it did. -/
def diskClonesUptoRow : OpenClaim := { program := "ytoallpinpeolfaa", sum := "23b830d65a5416e0487a294d804d28471791150ddd67fbcc812dd59012d75226", func := "refmesh/refmeshlaw19.DiskClones", spec := "diskClones", unfollowed := true, recurses := true, apart := false, narrowed := true }
def DiskClonesUptoSaid : Prop := diskClonesUptoRow.holds Try.pinned (OpenSpec.upto diskClonesSpec)

end Rows
end Go.Proofs.Ytoallpinpeolfaa
