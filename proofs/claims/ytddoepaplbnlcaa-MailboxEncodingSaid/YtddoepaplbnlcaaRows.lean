/-
  No cell of these rows narrows 'for every input' (looked for: loops, veiled, ifaces, maps, wideKeys, modest, calm, conditions, laid).
  DERIVED. THE GIVEN ROWS OF THIS SEAT. 7 by the template 'for every input the law returns true; each argument reads behind the call as it read before'; 0 by the template 'total and deterministic' (their statements: YtddoepaplbnlcaaTotals.lean).
  GIVEN WITH THE SEED: the statements are not yours to turn. If you find one false, say at which input.
  Laid BY PROGRAM, IN A SANDBOX (cutbox-rows.mjs): the forced cells as the released guide's own fill.sh prints them over the translation 8fb1c1b79978de6e… (all of the seat's roots in one cut). By AI agents, Wed Nov 11 2026. No macro, syntax, notation, axiom, sorry.
-/
import Derived.Test.YtddoepaplbnlcaaChecked
import GoSem.Claim
import GoSem.ClaimJoined
import GoSem.ClaimMapViews
import Derived.JoinedTies
import Derived.KernelRfl
namespace Go.Proofs.Ytddoepaplbnlcaa
/- THE CELL 'sum', in the pinned program and in every row, IS THE sha256 OF THE DUMP (.gsa) THAT YtddoepaplbnlcaaProg.lean LOADS. Nothing in Lean hashes anything: it is a label: what it is worth is what the hold of that sum in a sandbox is worth. -/
noncomputable def Try.pinned : Pinned := { name := "ytddoepaplbnlcaa", sum := "8fb1c1b79978de6e9709a8dc3925e9cc026a5db7468011ef46d4351dfacd324a", checked := Try.checked }
namespace Rows
def none {H : Type} : Left H := { results := [], args := [] }

/-- 'refmeshlaw46.MailboxChoice': WHATEVER THE INPUT: true; the input reads as it did. -/
def mailboxChoiceSpec : ChangeSpec := { name := "mailboxChoice", fn := fun _ => fun
  | [d1, d2] => { results := [.lit (.bool true)], args := [d1, d2] }
  | _ => none }
def mailboxChoiceRow : OpenClaim := { program := "ytddoepaplbnlcaa", sum := "8fb1c1b79978de6e9709a8dc3925e9cc026a5db7468011ef46d4351dfacd324a", func := "refmesh/refmeshlaw46.MailboxChoice", spec := "mailboxChoice", inPlace := ["slices.overlaps[refmesh/mailbox.message]"], unfollowed := true, recurses := true, apart := false }
def MailboxChoiceSaid : Prop := mailboxChoiceRow.holds Try.pinned (OpenSpec.ofChange mailboxChoiceSpec)

/-- ITS FALSE NEIGHBOUR: 'it returns false'. Refute it at one input. -/
def mailboxChoiceWrong : ChangeSpec := { name := "mailboxChoice", fn := fun _ => fun
  | [d1, d2] => { results := [.lit (.bool false)], args := [d1, d2] }
  | _ => none }
def MailboxChoiceWrongFalsely : Prop := mailboxChoiceRow.holds Try.pinned (OpenSpec.ofChange mailboxChoiceWrong)

/-- 'refmeshlaw46.MailboxOperations': WHATEVER THE INPUT: true; the input reads as it did. -/
def mailboxOperationsSpec : ChangeSpec := { name := "mailboxOperations", fn := fun _ => fun
  | [d] => { results := [.lit (.bool true)], args := [d] }
  | _ => none }
def mailboxOperationsRow : OpenClaim := { program := "ytddoepaplbnlcaa", sum := "8fb1c1b79978de6e9709a8dc3925e9cc026a5db7468011ef46d4351dfacd324a", func := "refmesh/refmeshlaw46.MailboxOperations", spec := "mailboxOperations", inPlace := ["slices.overlaps[refmesh/mailbox.message]"], unfollowed := true, recurses := true, apart := false }
def MailboxOperationsSaid : Prop := mailboxOperationsRow.holds Try.pinned (OpenSpec.ofChange mailboxOperationsSpec)

/-- ITS FALSE NEIGHBOUR: 'it returns false'. Refute it at one input. -/
def mailboxOperationsWrong : ChangeSpec := { name := "mailboxOperations", fn := fun _ => fun
  | [d] => { results := [.lit (.bool false)], args := [d] }
  | _ => none }
def MailboxOperationsWrongFalsely : Prop := mailboxOperationsRow.holds Try.pinned (OpenSpec.ofChange mailboxOperationsWrong)

/-- 'refmeshlaw46.MailboxOnce': WHATEVER THE INPUT: true; the input reads as it did. -/
def mailboxOnceSpec : ChangeSpec := { name := "mailboxOnce", fn := fun _ => fun
  | [d1, d2] => { results := [.lit (.bool true)], args := [d1, d2] }
  | _ => none }
def mailboxOnceRow : OpenClaim := { program := "ytddoepaplbnlcaa", sum := "8fb1c1b79978de6e9709a8dc3925e9cc026a5db7468011ef46d4351dfacd324a", func := "refmesh/refmeshlaw46.MailboxOnce", spec := "mailboxOnce", inPlace := ["slices.overlaps[refmesh/mailbox.message]"], unfollowed := true, recurses := true, apart := false }
def MailboxOnceSaid : Prop := mailboxOnceRow.holds Try.pinned (OpenSpec.ofChange mailboxOnceSpec)

/-- ITS FALSE NEIGHBOUR: 'it returns false'. Refute it at one input. -/
def mailboxOnceWrong : ChangeSpec := { name := "mailboxOnce", fn := fun _ => fun
  | [d1, d2] => { results := [.lit (.bool false)], args := [d1, d2] }
  | _ => none }
def MailboxOnceWrongFalsely : Prop := mailboxOnceRow.holds Try.pinned (OpenSpec.ofChange mailboxOnceWrong)

/-- 'refmeshlaw46.MailboxErrors': WHATEVER THE INPUT: true; the input reads as it did. -/
def mailboxErrorsSpec : ChangeSpec := { name := "mailboxErrors", fn := fun _ => fun
  | [d1, d2, d3] => { results := [.lit (.bool true)], args := [d1, d2, d3] }
  | _ => none }
def mailboxErrorsRow : OpenClaim := { program := "ytddoepaplbnlcaa", sum := "8fb1c1b79978de6e9709a8dc3925e9cc026a5db7468011ef46d4351dfacd324a", func := "refmesh/refmeshlaw46.MailboxErrors", spec := "mailboxErrors", inPlace := ["slices.overlaps[refmesh/mailbox.message]"], unfollowed := true, recurses := true, apart := false }
def MailboxErrorsSaid : Prop := mailboxErrorsRow.holds Try.pinned (OpenSpec.ofChange mailboxErrorsSpec)

/-- ITS FALSE NEIGHBOUR: 'it returns false'. Refute it at one input. -/
def mailboxErrorsWrong : ChangeSpec := { name := "mailboxErrors", fn := fun _ => fun
  | [d1, d2, d3] => { results := [.lit (.bool false)], args := [d1, d2, d3] }
  | _ => none }
def MailboxErrorsWrongFalsely : Prop := mailboxErrorsRow.holds Try.pinned (OpenSpec.ofChange mailboxErrorsWrong)

/-- 'refmeshlaw46.MailboxActors': WHATEVER THE INPUT: true; the input reads as it did. -/
def mailboxActorsSpec : ChangeSpec := { name := "mailboxActors", fn := fun _ => fun
  | [d1, d2] => { results := [.lit (.bool true)], args := [d1, d2] }
  | _ => none }
def mailboxActorsRow : OpenClaim := { program := "ytddoepaplbnlcaa", sum := "8fb1c1b79978de6e9709a8dc3925e9cc026a5db7468011ef46d4351dfacd324a", func := "refmesh/refmeshlaw46.MailboxActors", spec := "mailboxActors", inPlace := ["slices.overlaps[refmesh/mailbox.message]"], unfollowed := true, recurses := true, apart := false }
def MailboxActorsSaid : Prop := mailboxActorsRow.holds Try.pinned (OpenSpec.ofChange mailboxActorsSpec)

/-- ITS FALSE NEIGHBOUR: 'it returns false'. Refute it at one input. -/
def mailboxActorsWrong : ChangeSpec := { name := "mailboxActors", fn := fun _ => fun
  | [d1, d2] => { results := [.lit (.bool false)], args := [d1, d2] }
  | _ => none }
def MailboxActorsWrongFalsely : Prop := mailboxActorsRow.holds Try.pinned (OpenSpec.ofChange mailboxActorsWrong)

/-- 'refmeshlaw46.MailboxDecoding': WHATEVER THE INPUT: true; the input reads as it did. -/
def mailboxDecodingSpec : ChangeSpec := { name := "mailboxDecoding", fn := fun _ => fun
  | [d] => { results := [.lit (.bool true)], args := [d] }
  | _ => none }
def mailboxDecodingRow : OpenClaim := { program := "ytddoepaplbnlcaa", sum := "8fb1c1b79978de6e9709a8dc3925e9cc026a5db7468011ef46d4351dfacd324a", func := "refmesh/refmeshlaw46.MailboxDecoding", spec := "mailboxDecoding", inPlace := ["slices.overlaps[refmesh/mailbox.message]"], unfollowed := true, recurses := true, apart := false }
def MailboxDecodingSaid : Prop := mailboxDecodingRow.holds Try.pinned (OpenSpec.ofChange mailboxDecodingSpec)

/-- ITS FALSE NEIGHBOUR: 'it returns false'. Refute it at one input. -/
def mailboxDecodingWrong : ChangeSpec := { name := "mailboxDecoding", fn := fun _ => fun
  | [d] => { results := [.lit (.bool false)], args := [d] }
  | _ => none }
def MailboxDecodingWrongFalsely : Prop := mailboxDecodingRow.holds Try.pinned (OpenSpec.ofChange mailboxDecodingWrong)

/-- 'refmeshlaw46.MailboxEncoding': WHATEVER THE INPUT: true; the input reads as it did. -/
def mailboxEncodingSpec : ChangeSpec := { name := "mailboxEncoding", fn := fun _ => fun
  | [d1, d2] => { results := [.lit (.bool true)], args := [d1, d2] }
  | _ => none }
def mailboxEncodingRow : OpenClaim := { program := "ytddoepaplbnlcaa", sum := "8fb1c1b79978de6e9709a8dc3925e9cc026a5db7468011ef46d4351dfacd324a", func := "refmesh/refmeshlaw46.MailboxEncoding", spec := "mailboxEncoding", inPlace := ["slices.overlaps[refmesh/mailbox.message]"], unfollowed := true, recurses := true, apart := false }
def MailboxEncodingSaid : Prop := mailboxEncodingRow.holds Try.pinned (OpenSpec.ofChange mailboxEncodingSpec)

/-- ITS FALSE NEIGHBOUR: 'it returns false'. Refute it at one input. -/
def mailboxEncodingWrong : ChangeSpec := { name := "mailboxEncoding", fn := fun _ => fun
  | [d1, d2] => { results := [.lit (.bool false)], args := [d1, d2] }
  | _ => none }
def MailboxEncodingWrongFalsely : Prop := mailboxEncodingRow.holds Try.pinned (OpenSpec.ofChange mailboxEncodingWrong)

/- THE SECOND FORM. 'bulk': how many values and letters a reading holds, each counted each time it is reached (what is shared counts as often as it is met; a slice's spare places count too). A statement '..UptoSaid' is the law's where the arguments, and the package variables that the reading takes, are together of bulk at most 1048576: NARROWER than '..Said'. Prove '..Said' where nothing that the law and all that it calls make is longer than what came in: it says more and counts as full. Else prove '..UptoSaid'. A law counts once. -/
mutual
def uptoBulk {H : Type} : DataW H → Nat
  | .lit (.string bytes) => bytes.length + 1
  | .lit _ => 1
  | .nil => 1
  | .ptr d => uptoBulk d + 1
  | .slice elems spare => uptoBulkAll elems + uptoBulkAll spare + 1
  | .agg parts => uptoBulkAll parts + 1
  | .iface _ d => uptoBulk d + 1
  | .map entries => uptoBulkEntries entries + 1
  | .held _ => 1
def uptoBulkAll {H : Type} : List (DataW H) → Nat
  | [] => 0
  | d :: r => uptoBulk d + uptoBulkAll r
def uptoBulkEntries {H : Type} : List (Lit × DataW H) → Nat
  | [] => 0
  | x :: r => uptoBulkEntry x + uptoBulkEntries r
def uptoBulkEntry {H : Type} : Lit × DataW H → Nat
  | (.string bytes, d) => bytes.length + uptoBulk d + 1
  | (_, d) => uptoBulk d + 1
 end
def uptoSmall : (H : Type) → List (DataW H) → Bool := fun _ ds => decide (uptoBulkAll ds ≤ 1048576)
def OpenSpec.upto (s : _root_.Go.ChangeSpec) : _root_.Go.OpenSpec := { _root_.Go.OpenSpec.ofChange s with cond := some uptoSmall }

/-- 'refmeshlaw46.MailboxChoice', WHERE WHAT IT READS IS OF BULK AT MOST 1048576: true; the input reads as it did. -/
def mailboxChoiceUptoRow : OpenClaim := { program := "ytddoepaplbnlcaa", sum := "8fb1c1b79978de6e9709a8dc3925e9cc026a5db7468011ef46d4351dfacd324a", func := "refmesh/refmeshlaw46.MailboxChoice", spec := "mailboxChoice", inPlace := ["slices.overlaps[refmesh/mailbox.message]"], unfollowed := true, recurses := true, apart := false, narrowed := true }
def MailboxChoiceUptoSaid : Prop := mailboxChoiceUptoRow.holds Try.pinned (OpenSpec.upto mailboxChoiceSpec)

/-- 'refmeshlaw46.MailboxOperations', WHERE WHAT IT READS IS OF BULK AT MOST 1048576: true; the input reads as it did. -/
def mailboxOperationsUptoRow : OpenClaim := { program := "ytddoepaplbnlcaa", sum := "8fb1c1b79978de6e9709a8dc3925e9cc026a5db7468011ef46d4351dfacd324a", func := "refmesh/refmeshlaw46.MailboxOperations", spec := "mailboxOperations", inPlace := ["slices.overlaps[refmesh/mailbox.message]"], unfollowed := true, recurses := true, apart := false, narrowed := true }
def MailboxOperationsUptoSaid : Prop := mailboxOperationsUptoRow.holds Try.pinned (OpenSpec.upto mailboxOperationsSpec)

/-- 'refmeshlaw46.MailboxOnce', WHERE WHAT IT READS IS OF BULK AT MOST 1048576: true; the input reads as it did. -/
def mailboxOnceUptoRow : OpenClaim := { program := "ytddoepaplbnlcaa", sum := "8fb1c1b79978de6e9709a8dc3925e9cc026a5db7468011ef46d4351dfacd324a", func := "refmesh/refmeshlaw46.MailboxOnce", spec := "mailboxOnce", inPlace := ["slices.overlaps[refmesh/mailbox.message]"], unfollowed := true, recurses := true, apart := false, narrowed := true }
def MailboxOnceUptoSaid : Prop := mailboxOnceUptoRow.holds Try.pinned (OpenSpec.upto mailboxOnceSpec)

/-- 'refmeshlaw46.MailboxErrors', WHERE WHAT IT READS IS OF BULK AT MOST 1048576: true; the input reads as it did. -/
def mailboxErrorsUptoRow : OpenClaim := { program := "ytddoepaplbnlcaa", sum := "8fb1c1b79978de6e9709a8dc3925e9cc026a5db7468011ef46d4351dfacd324a", func := "refmesh/refmeshlaw46.MailboxErrors", spec := "mailboxErrors", inPlace := ["slices.overlaps[refmesh/mailbox.message]"], unfollowed := true, recurses := true, apart := false, narrowed := true }
def MailboxErrorsUptoSaid : Prop := mailboxErrorsUptoRow.holds Try.pinned (OpenSpec.upto mailboxErrorsSpec)

/-- 'refmeshlaw46.MailboxActors', WHERE WHAT IT READS IS OF BULK AT MOST 1048576: true; the input reads as it did. -/
def mailboxActorsUptoRow : OpenClaim := { program := "ytddoepaplbnlcaa", sum := "8fb1c1b79978de6e9709a8dc3925e9cc026a5db7468011ef46d4351dfacd324a", func := "refmesh/refmeshlaw46.MailboxActors", spec := "mailboxActors", inPlace := ["slices.overlaps[refmesh/mailbox.message]"], unfollowed := true, recurses := true, apart := false, narrowed := true }
def MailboxActorsUptoSaid : Prop := mailboxActorsUptoRow.holds Try.pinned (OpenSpec.upto mailboxActorsSpec)

/-- 'refmeshlaw46.MailboxDecoding', WHERE WHAT IT READS IS OF BULK AT MOST 1048576: true; the input reads as it did. -/
def mailboxDecodingUptoRow : OpenClaim := { program := "ytddoepaplbnlcaa", sum := "8fb1c1b79978de6e9709a8dc3925e9cc026a5db7468011ef46d4351dfacd324a", func := "refmesh/refmeshlaw46.MailboxDecoding", spec := "mailboxDecoding", inPlace := ["slices.overlaps[refmesh/mailbox.message]"], unfollowed := true, recurses := true, apart := false, narrowed := true }
def MailboxDecodingUptoSaid : Prop := mailboxDecodingUptoRow.holds Try.pinned (OpenSpec.upto mailboxDecodingSpec)

/-- 'refmeshlaw46.MailboxEncoding', WHERE WHAT IT READS IS OF BULK AT MOST 1048576: true; the input reads as it did. -/
def mailboxEncodingUptoRow : OpenClaim := { program := "ytddoepaplbnlcaa", sum := "8fb1c1b79978de6e9709a8dc3925e9cc026a5db7468011ef46d4351dfacd324a", func := "refmesh/refmeshlaw46.MailboxEncoding", spec := "mailboxEncoding", inPlace := ["slices.overlaps[refmesh/mailbox.message]"], unfollowed := true, recurses := true, apart := false, narrowed := true }
def MailboxEncodingUptoSaid : Prop := mailboxEncodingUptoRow.holds Try.pinned (OpenSpec.upto mailboxEncodingSpec)

end Rows
end Go.Proofs.Ytddoepaplbnlcaa
