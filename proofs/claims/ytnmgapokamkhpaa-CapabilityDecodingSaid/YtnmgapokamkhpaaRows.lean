/-
  No cell of these rows narrows 'for every input' (looked for: loops, veiled, ifaces, maps, wideKeys, modest, calm, conditions, laid).
  DERIVED. THE GIVEN ROWS OF THIS SEAT. 3 by the template 'for every input the law returns true; each argument reads behind the call as it read before'; 0 by the template 'total and deterministic' (their statements: YtnmgapokamkhpaaTotals.lean).
  GIVEN WITH THE SEED: the statements are not yours to turn. If you find one false, say at which input.
  Laid BY PROGRAM, IN A SANDBOX (cutbox-rows.mjs): the forced cells as the released guide's own fill.sh prints them over the translation 04a1849287a6f81a… (all of the seat's roots in one cut). By AI agents, Wed Nov 11 2026. No macro, syntax, notation, axiom, sorry.
-/
import Derived.Test.YtnmgapokamkhpaaChecked
import GoSem.Claim
import GoSem.ClaimJoined
import GoSem.ClaimMapViews
import Derived.JoinedTies
import Derived.KernelRfl
namespace Go.Proofs.Ytnmgapokamkhpaa
/- THE CELL 'sum', in the pinned program and in every row, IS THE sha256 OF THE DUMP (.gsa) THAT YtnmgapokamkhpaaProg.lean LOADS. Nothing in Lean hashes anything: it is a label: what it is worth is what the hold of that sum in a sandbox is worth. -/
noncomputable def Try.pinned : Pinned := { name := "ytnmgapokamkhpaa", sum := "04a1849287a6f81aac39eb387dc0692a697758969277017a221bf0b3dcb711c3", checked := Try.checked }
namespace Rows
def none {H : Type} : Left H := { results := [], args := [] }

/-- 'refmeshlaw22.CapabilitySkips': WHATEVER THE INPUT: true; the input reads as it did. -/
def capabilitySkipsSpec : ChangeSpec := { name := "capabilitySkips", fn := fun _ => fun
  | [d1, d2, d3] => { results := [.lit (.bool true)], args := [d1, d2, d3] }
  | _ => none }
def capabilitySkipsRow : OpenClaim := { program := "ytnmgapokamkhpaa", sum := "04a1849287a6f81aac39eb387dc0692a697758969277017a221bf0b3dcb711c3", func := "refmesh/refmeshlaw22.CapabilitySkips", spec := "capabilitySkips", unfollowed := true, recurses := true, apart := false }
def CapabilitySkipsSaid : Prop := capabilitySkipsRow.holds Try.pinned (OpenSpec.ofChange capabilitySkipsSpec)

/-- ITS FALSE NEIGHBOUR: 'it returns false'. Refute it at one input. -/
def capabilitySkipsWrong : ChangeSpec := { name := "capabilitySkips", fn := fun _ => fun
  | [d1, d2, d3] => { results := [.lit (.bool false)], args := [d1, d2, d3] }
  | _ => none }
def CapabilitySkipsWrongFalsely : Prop := capabilitySkipsRow.holds Try.pinned (OpenSpec.ofChange capabilitySkipsWrong)

/-- 'refmeshlaw22.CapabilitySecrets': WHATEVER THE INPUT: true; the input reads as it did. -/
def capabilitySecretsSpec : ChangeSpec := { name := "capabilitySecrets", fn := fun _ => fun
  | [d1, d2, d3] => { results := [.lit (.bool true)], args := [d1, d2, d3] }
  | _ => none }
def capabilitySecretsRow : OpenClaim := { program := "ytnmgapokamkhpaa", sum := "04a1849287a6f81aac39eb387dc0692a697758969277017a221bf0b3dcb711c3", func := "refmesh/refmeshlaw22.CapabilitySecrets", spec := "capabilitySecrets", unfollowed := true, recurses := true, apart := false }
def CapabilitySecretsSaid : Prop := capabilitySecretsRow.holds Try.pinned (OpenSpec.ofChange capabilitySecretsSpec)

/-- ITS FALSE NEIGHBOUR: 'it returns false'. Refute it at one input. -/
def capabilitySecretsWrong : ChangeSpec := { name := "capabilitySecrets", fn := fun _ => fun
  | [d1, d2, d3] => { results := [.lit (.bool false)], args := [d1, d2, d3] }
  | _ => none }
def CapabilitySecretsWrongFalsely : Prop := capabilitySecretsRow.holds Try.pinned (OpenSpec.ofChange capabilitySecretsWrong)

/-- 'refmeshlaw22.CapabilityDecoding': WHATEVER THE INPUT: true; the input reads as it did. -/
def capabilityDecodingSpec : ChangeSpec := { name := "capabilityDecoding", fn := fun _ => fun
  | [d1, d2] => { results := [.lit (.bool true)], args := [d1, d2] }
  | _ => none }
def capabilityDecodingRow : OpenClaim := { program := "ytnmgapokamkhpaa", sum := "04a1849287a6f81aac39eb387dc0692a697758969277017a221bf0b3dcb711c3", func := "refmesh/refmeshlaw22.CapabilityDecoding", spec := "capabilityDecoding", unfollowed := true, recurses := true, apart := false }
def CapabilityDecodingSaid : Prop := capabilityDecodingRow.holds Try.pinned (OpenSpec.ofChange capabilityDecodingSpec)

/-- ITS FALSE NEIGHBOUR: 'it returns false'. Refute it at one input. -/
def capabilityDecodingWrong : ChangeSpec := { name := "capabilityDecoding", fn := fun _ => fun
  | [d1, d2] => { results := [.lit (.bool false)], args := [d1, d2] }
  | _ => none }
def CapabilityDecodingWrongFalsely : Prop := capabilityDecodingRow.holds Try.pinned (OpenSpec.ofChange capabilityDecodingWrong)

/- THE SECOND FORM. 'bulk': how many values and letters a reading holds, each counted each time it is reached (what is shared counts as often as it is met; a slice's spare places count too). A statement '..UptoSaid' is the law's where the arguments, and the package variables that the reading takes, are together of bulk at most 1048576: NARROWER than '..Said'. Prove '..Said' where nothing that the law and all that it calls make is longer than what came in: it says more and counts as full. Else prove '..UptoSaid'. A law counts once. -/
mutual
def uptoBulk {H : Type} : DataW H → Nat
  | .lit (.string bytes) => bytes.length + 1
  | .lit _ => 1
  | .nil => 1
  | .ptr d => uptoBulk d + 1
  | .slice elems spare => uptoBulkAll elems + uptoBulkAll spare + 1
  | .agg parts => uptoBulkAll parts + 1
  | .iface _ d => uptoBulk d + 1
  | .map entries => uptoBulkEntries entries + 1
  | .held _ => 1
def uptoBulkAll {H : Type} : List (DataW H) → Nat
  | [] => 0
  | d :: r => uptoBulk d + uptoBulkAll r
def uptoBulkEntries {H : Type} : List (Lit × DataW H) → Nat
  | [] => 0
  | x :: r => uptoBulkEntry x + uptoBulkEntries r
def uptoBulkEntry {H : Type} : Lit × DataW H → Nat
  | (.string bytes, d) => bytes.length + uptoBulk d + 1
  | (_, d) => uptoBulk d + 1
 end
def uptoSmall : (H : Type) → List (DataW H) → Bool := fun _ ds => decide (uptoBulkAll ds ≤ 1048576)
def OpenSpec.upto (s : _root_.Go.ChangeSpec) : _root_.Go.OpenSpec := { _root_.Go.OpenSpec.ofChange s with cond := some uptoSmall }

/-- 'refmeshlaw22.CapabilitySkips', WHERE WHAT IT READS IS OF BULK AT MOST 1048576: true; the input reads as it did. -/
def capabilitySkipsUptoRow : OpenClaim := { program := "ytnmgapokamkhpaa", sum := "04a1849287a6f81aac39eb387dc0692a697758969277017a221bf0b3dcb711c3", func := "refmesh/refmeshlaw22.CapabilitySkips", spec := "capabilitySkips", unfollowed := true, recurses := true, apart := false, narrowed := true }
def CapabilitySkipsUptoSaid : Prop := capabilitySkipsUptoRow.holds Try.pinned (OpenSpec.upto capabilitySkipsSpec)

/-- 'refmeshlaw22.CapabilitySecrets', WHERE WHAT IT READS IS OF BULK AT MOST 1048576: true; the input reads as it did. -/
def capabilitySecretsUptoRow : OpenClaim := { program := "ytnmgapokamkhpaa", sum := "04a1849287a6f81aac39eb387dc0692a697758969277017a221bf0b3dcb711c3", func := "refmesh/refmeshlaw22.CapabilitySecrets", spec := "capabilitySecrets", unfollowed := true, recurses := true, apart := false, narrowed := true }
def CapabilitySecretsUptoSaid : Prop := capabilitySecretsUptoRow.holds Try.pinned (OpenSpec.upto capabilitySecretsSpec)

/-- 'refmeshlaw22.CapabilityDecoding', WHERE WHAT IT READS IS OF BULK AT MOST 1048576: true; the input reads as it did. -/
def capabilityDecodingUptoRow : OpenClaim := { program := "ytnmgapokamkhpaa", sum := "04a1849287a6f81aac39eb387dc0692a697758969277017a221bf0b3dcb711c3", func := "refmesh/refmeshlaw22.CapabilityDecoding", spec := "capabilityDecoding", unfollowed := true, recurses := true, apart := false, narrowed := true }
def CapabilityDecodingUptoSaid : Prop := capabilityDecodingUptoRow.holds Try.pinned (OpenSpec.upto capabilityDecodingSpec)

end Rows
end Go.Proofs.Ytnmgapokamkhpaa
