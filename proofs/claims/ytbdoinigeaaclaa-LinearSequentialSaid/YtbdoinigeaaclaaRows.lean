/-
  No cell of these rows narrows 'for every input' (looked for: loops, veiled, ifaces, maps, wideKeys, modest, calm, conditions, laid).
  DERIVED. THE GIVEN ROWS OF THIS SEAT. 4 by the template 'for every input the law returns true; each argument reads behind the call as it read before'; 0 by the template 'total and deterministic' (their statements: YtbdoinigeaaclaaTotals.lean).
  GIVEN WITH THE SEED: the statements are not yours to turn. If you find one false, say at which input.
  Laid BY PROGRAM, IN A SANDBOX (cutbox-rows.mjs): the forced cells as the released guide's own fill.sh prints them over the translation 7aa9263542da1d25… (all of the seat's roots in one cut). By AI agents, Wed Nov 11 2026. No macro, syntax, notation, axiom, sorry.
-/
import Derived.Test.YtbdoinigeaaclaaChecked
import GoSem.Claim
import GoSem.ClaimJoined
import GoSem.ClaimMapViews
import Derived.JoinedTies
import Derived.KernelRfl
namespace Go.Proofs.Ytbdoinigeaaclaa
/- THE CELL 'sum', in the pinned program and in every row, IS THE sha256 OF THE DUMP (.gsa) THAT YtbdoinigeaaclaaProg.lean LOADS. Nothing in Lean hashes anything: it is a label: what it is worth is what the hold of that sum in a sandbox is worth. -/
noncomputable def Try.pinned : Pinned := { name := "ytbdoinigeaaclaa", sum := "7aa9263542da1d25e96dc458bddf9dac9540b57e89b7e843e6a85e7c5d6f825c", checked := Try.checked }
namespace Rows
def none {H : Type} : Left H := { results := [], args := [] }

/-- 'ropeladderlaw17.LinearMatchesReference': WHATEVER THE INPUT: true; the input reads as it did. -/
def linearMatchesReferenceSpec : ChangeSpec := { name := "linearMatchesReference", fn := fun _ => fun
  | [d1, d2, d3, d4, d5] => { results := [.lit (.bool true)], args := [d1, d2, d3, d4, d5] }
  | _ => none }
def linearMatchesReferenceRow : OpenClaim := { program := "ytbdoinigeaaclaa", sum := "7aa9263542da1d25e96dc458bddf9dac9540b57e89b7e843e6a85e7c5d6f825c", func := "ropeladder/ropeladderlaw17.LinearMatchesReference", spec := "linearMatchesReference", inPlace := ["slices.overlaps[ropeladder/api.Entry]"], unfollowed := true, recurses := true, apart := false }
def LinearMatchesReferenceSaid : Prop := linearMatchesReferenceRow.holds Try.pinned (OpenSpec.ofChange linearMatchesReferenceSpec)

/-- ITS FALSE NEIGHBOUR: 'it returns false'. Refute it at one input. -/
def linearMatchesReferenceWrong : ChangeSpec := { name := "linearMatchesReference", fn := fun _ => fun
  | [d1, d2, d3, d4, d5] => { results := [.lit (.bool false)], args := [d1, d2, d3, d4, d5] }
  | _ => none }
def LinearMatchesReferenceWrongFalsely : Prop := linearMatchesReferenceRow.holds Try.pinned (OpenSpec.ofChange linearMatchesReferenceWrong)

/-- 'ropeladderlaw17.LinearSound': WHATEVER THE INPUT: true; the input reads as it did. -/
def linearSoundSpec : ChangeSpec := { name := "linearSound", fn := fun _ => fun
  | [d1, d2] => { results := [.lit (.bool true)], args := [d1, d2] }
  | _ => none }
def linearSoundRow : OpenClaim := { program := "ytbdoinigeaaclaa", sum := "7aa9263542da1d25e96dc458bddf9dac9540b57e89b7e843e6a85e7c5d6f825c", func := "ropeladder/ropeladderlaw17.LinearSound", spec := "linearSound", inPlace := ["slices.overlaps[ropeladder/api.Entry]"], unfollowed := true, recurses := true, apart := false }
def LinearSoundSaid : Prop := linearSoundRow.holds Try.pinned (OpenSpec.ofChange linearSoundSpec)

/-- ITS FALSE NEIGHBOUR: 'it returns false'. Refute it at one input. -/
def linearSoundWrong : ChangeSpec := { name := "linearSound", fn := fun _ => fun
  | [d1, d2] => { results := [.lit (.bool false)], args := [d1, d2] }
  | _ => none }
def LinearSoundWrongFalsely : Prop := linearSoundRow.holds Try.pinned (OpenSpec.ofChange linearSoundWrong)

/-- 'ropeladderlaw17.LinearComplete': WHATEVER THE INPUT: true; the input reads as it did. -/
def linearCompleteSpec : ChangeSpec := { name := "linearComplete", fn := fun _ => fun
  | [d1, d2, d3] => { results := [.lit (.bool true)], args := [d1, d2, d3] }
  | _ => none }
def linearCompleteRow : OpenClaim := { program := "ytbdoinigeaaclaa", sum := "7aa9263542da1d25e96dc458bddf9dac9540b57e89b7e843e6a85e7c5d6f825c", func := "ropeladder/ropeladderlaw17.LinearComplete", spec := "linearComplete", inPlace := ["slices.overlaps[ropeladder/api.Entry]"], unfollowed := true, recurses := true, apart := false }
def LinearCompleteSaid : Prop := linearCompleteRow.holds Try.pinned (OpenSpec.ofChange linearCompleteSpec)

/-- ITS FALSE NEIGHBOUR: 'it returns false'. Refute it at one input. -/
def linearCompleteWrong : ChangeSpec := { name := "linearComplete", fn := fun _ => fun
  | [d1, d2, d3] => { results := [.lit (.bool false)], args := [d1, d2, d3] }
  | _ => none }
def LinearCompleteWrongFalsely : Prop := linearCompleteRow.holds Try.pinned (OpenSpec.ofChange linearCompleteWrong)

/-- 'ropeladderlaw17.LinearSequential': WHATEVER THE INPUT: true; the input reads as it did. -/
def linearSequentialSpec : ChangeSpec := { name := "linearSequential", fn := fun _ => fun
  | [d1, d2, d3] => { results := [.lit (.bool true)], args := [d1, d2, d3] }
  | _ => none }
def linearSequentialRow : OpenClaim := { program := "ytbdoinigeaaclaa", sum := "7aa9263542da1d25e96dc458bddf9dac9540b57e89b7e843e6a85e7c5d6f825c", func := "ropeladder/ropeladderlaw17.LinearSequential", spec := "linearSequential", inPlace := ["slices.overlaps[ropeladder/api.Entry]"], unfollowed := true, recurses := true, apart := false }
def LinearSequentialSaid : Prop := linearSequentialRow.holds Try.pinned (OpenSpec.ofChange linearSequentialSpec)

/-- ITS FALSE NEIGHBOUR: 'it returns false'. Refute it at one input. -/
def linearSequentialWrong : ChangeSpec := { name := "linearSequential", fn := fun _ => fun
  | [d1, d2, d3] => { results := [.lit (.bool false)], args := [d1, d2, d3] }
  | _ => none }
def LinearSequentialWrongFalsely : Prop := linearSequentialRow.holds Try.pinned (OpenSpec.ofChange linearSequentialWrong)

/- THE SECOND FORM. 'bulk': how many values and letters a reading holds, each counted each time it is reached (what is shared counts as often as it is met; a slice's spare places count too). A statement '..UptoSaid' is the law's where the arguments, and the package variables that the reading takes, are together of bulk at most 1048576: NARROWER than '..Said'. Prove '..Said' where nothing that the law and all that it calls make is longer than what came in: it says more and counts as full. Else prove '..UptoSaid'. A law counts once. -/
mutual
def uptoBulk {H : Type} : DataW H → Nat
  | .lit (.string bytes) => bytes.length + 1
  | .lit _ => 1
  | .nil => 1
  | .ptr d => uptoBulk d + 1
  | .slice elems spare => uptoBulkAll elems + uptoBulkAll spare + 1
  | .agg parts => uptoBulkAll parts + 1
  | .iface _ d => uptoBulk d + 1
  | .map entries => uptoBulkEntries entries + 1
  | .held _ => 1
def uptoBulkAll {H : Type} : List (DataW H) → Nat
  | [] => 0
  | d :: r => uptoBulk d + uptoBulkAll r
def uptoBulkEntries {H : Type} : List (Lit × DataW H) → Nat
  | [] => 0
  | x :: r => uptoBulkEntry x + uptoBulkEntries r
def uptoBulkEntry {H : Type} : Lit × DataW H → Nat
  | (.string bytes, d) => bytes.length + uptoBulk d + 1
  | (_, d) => uptoBulk d + 1
 end
def uptoSmall : (H : Type) → List (DataW H) → Bool := fun _ ds => decide (uptoBulkAll ds ≤ 1048576)
def OpenSpec.upto (s : _root_.Go.ChangeSpec) : _root_.Go.OpenSpec := { _root_.Go.OpenSpec.ofChange s with cond := some uptoSmall }

/-- 'ropeladderlaw17.LinearMatchesReference', WHERE WHAT IT READS IS OF BULK AT MOST 1048576: true; the input reads as it did. -/
def linearMatchesReferenceUptoRow : OpenClaim := { program := "ytbdoinigeaaclaa", sum := "7aa9263542da1d25e96dc458bddf9dac9540b57e89b7e843e6a85e7c5d6f825c", func := "ropeladder/ropeladderlaw17.LinearMatchesReference", spec := "linearMatchesReference", inPlace := ["slices.overlaps[ropeladder/api.Entry]"], unfollowed := true, recurses := true, apart := false, narrowed := true }
def LinearMatchesReferenceUptoSaid : Prop := linearMatchesReferenceUptoRow.holds Try.pinned (OpenSpec.upto linearMatchesReferenceSpec)

/-- 'ropeladderlaw17.LinearSound', WHERE WHAT IT READS IS OF BULK AT MOST 1048576: true; the input reads as it did. -/
def linearSoundUptoRow : OpenClaim := { program := "ytbdoinigeaaclaa", sum := "7aa9263542da1d25e96dc458bddf9dac9540b57e89b7e843e6a85e7c5d6f825c", func := "ropeladder/ropeladderlaw17.LinearSound", spec := "linearSound", inPlace := ["slices.overlaps[ropeladder/api.Entry]"], unfollowed := true, recurses := true, apart := false, narrowed := true }
def LinearSoundUptoSaid : Prop := linearSoundUptoRow.holds Try.pinned (OpenSpec.upto linearSoundSpec)

/-- 'ropeladderlaw17.LinearComplete', WHERE WHAT IT READS IS OF BULK AT MOST 1048576: true; the input reads as it did. -/
def linearCompleteUptoRow : OpenClaim := { program := "ytbdoinigeaaclaa", sum := "7aa9263542da1d25e96dc458bddf9dac9540b57e89b7e843e6a85e7c5d6f825c", func := "ropeladder/ropeladderlaw17.LinearComplete", spec := "linearComplete", inPlace := ["slices.overlaps[ropeladder/api.Entry]"], unfollowed := true, recurses := true, apart := false, narrowed := true }
def LinearCompleteUptoSaid : Prop := linearCompleteUptoRow.holds Try.pinned (OpenSpec.upto linearCompleteSpec)

/-- 'ropeladderlaw17.LinearSequential', WHERE WHAT IT READS IS OF BULK AT MOST 1048576: true; the input reads as it did. -/
def linearSequentialUptoRow : OpenClaim := { program := "ytbdoinigeaaclaa", sum := "7aa9263542da1d25e96dc458bddf9dac9540b57e89b7e843e6a85e7c5d6f825c", func := "ropeladder/ropeladderlaw17.LinearSequential", spec := "linearSequential", inPlace := ["slices.overlaps[ropeladder/api.Entry]"], unfollowed := true, recurses := true, apart := false, narrowed := true }
def LinearSequentialUptoSaid : Prop := linearSequentialUptoRow.holds Try.pinned (OpenSpec.upto linearSequentialSpec)

end Rows
end Go.Proofs.Ytbdoinigeaaclaa
