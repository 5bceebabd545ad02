/-
  No cell of these rows narrows 'for every input' (looked for: loops, veiled, ifaces, maps, wideKeys, modest, calm, conditions, laid).
  DERIVED. THE GIVEN ROWS OF THIS SEAT. 3 by the template 'for every input the law returns true; each argument reads behind the call as it read before'; 0 by the template 'total and deterministic' (their statements: YtbdoinigeaaclaaGreatTotals.lean).
  GIVEN WITH THE SEED: the statements are not yours to turn. If you find one false, say at which input.
  Laid BY PROGRAM, IN A SANDBOX (cutbox-rows.mjs): the forced cells as the released guide's own fill.sh prints them over the translation be9cd0266c8daa95… (all of the seat's roots in one cut). By AI agents, Wed Nov 11 2026. No macro, syntax, notation, axiom, sorry.
-/
import Derived.Test.YtbdoinigeaaclaaGreatChecked
import GoSem.Claim
import GoSem.ClaimJoined
import GoSem.ClaimMapViews
import Derived.JoinedTies
import Derived.KernelRfl
namespace Go.Proofs.YtbdoinigeaaclaaGreat
/- THE CELL 'sum', in the pinned program and in every row, IS THE sha256 OF THE DUMP (.gsa) THAT YtbdoinigeaaclaaGreatProg.lean LOADS. Nothing in Lean hashes anything: it is a label: what it is worth is what the hold of that sum in a sandbox is worth. -/
noncomputable def Tryz.pinned : Pinned := { name := "ytbdoinigeaaclaagreat", sum := "be9cd0266c8daa953a7ff9fffd5de83f6c1561f28afee23f9a98a5ad0edda81c", checked := Tryz.checked }
namespace Rows
def none {H : Type} : Left H := { results := [], args := [] }

/-- 'ropeladdertop.TopPointsLinearize': WHATEVER THE INPUT: true; the input reads as it did. -/
def topPointsLinearizeSpec : ChangeSpec := { name := "topPointsLinearize", fn := fun _ => fun
  | [d1, d2, d3, d4] => { results := [.lit (.bool true)], args := [d1, d2, d3, d4] }
  | _ => none }
def topPointsLinearizeRow : OpenClaim := { program := "ytbdoinigeaaclaagreat", sum := "be9cd0266c8daa953a7ff9fffd5de83f6c1561f28afee23f9a98a5ad0edda81c", func := "ropeladder/ropeladdertop.TopPointsLinearize", spec := "topPointsLinearize", inPlace := ["slices.overlaps[ropeladder/api.Item]", "slices.overlaps[ropeladder/api.Entry]"], unfollowed := true, recurses := true, apart := false }
def TopPointsLinearizeSaid : Prop := topPointsLinearizeRow.holds Tryz.pinned (OpenSpec.ofChange topPointsLinearizeSpec)

/-- ITS FALSE NEIGHBOUR: 'it returns false'. Refute it at one input. -/
def topPointsLinearizeWrong : ChangeSpec := { name := "topPointsLinearize", fn := fun _ => fun
  | [d1, d2, d3, d4] => { results := [.lit (.bool false)], args := [d1, d2, d3, d4] }
  | _ => none }
def TopPointsLinearizeWrongFalsely : Prop := topPointsLinearizeRow.holds Tryz.pinned (OpenSpec.ofChange topPointsLinearizeWrong)

/-- 'ropeladderlaw17.LinearRuns': WHATEVER THE INPUT: true; the input reads as it did. -/
def linearRunsSpec : ChangeSpec := { name := "linearRuns", fn := fun _ => fun
  | [d1, d2, d3, d4] => { results := [.lit (.bool true)], args := [d1, d2, d3, d4] }
  | _ => none }
def linearRunsRow : OpenClaim := { program := "ytbdoinigeaaclaagreat", sum := "be9cd0266c8daa953a7ff9fffd5de83f6c1561f28afee23f9a98a5ad0edda81c", func := "ropeladder/ropeladderlaw17.LinearRuns", spec := "linearRuns", inPlace := ["slices.overlaps[ropeladder/api.Entry]", "slices.overlaps[ropeladder/api.Item]"], unfollowed := true, recurses := true, apart := false }
def LinearRunsSaid : Prop := linearRunsRow.holds Tryz.pinned (OpenSpec.ofChange linearRunsSpec)

/-- ITS FALSE NEIGHBOUR: 'it returns false'. Refute it at one input. -/
def linearRunsWrong : ChangeSpec := { name := "linearRuns", fn := fun _ => fun
  | [d1, d2, d3, d4] => { results := [.lit (.bool false)], args := [d1, d2, d3, d4] }
  | _ => none }
def LinearRunsWrongFalsely : Prop := linearRunsRow.holds Tryz.pinned (OpenSpec.ofChange linearRunsWrong)

/-- 'ropeladderlaw17.LinearRejects': WHATEVER THE INPUT: true; the input reads as it did. -/
def linearRejectsSpec : ChangeSpec := { name := "linearRejects", fn := fun _ => fun
  | [d1, d2, d3, d4] => { results := [.lit (.bool true)], args := [d1, d2, d3, d4] }
  | _ => none }
def linearRejectsRow : OpenClaim := { program := "ytbdoinigeaaclaagreat", sum := "be9cd0266c8daa953a7ff9fffd5de83f6c1561f28afee23f9a98a5ad0edda81c", func := "ropeladder/ropeladderlaw17.LinearRejects", spec := "linearRejects", inPlace := ["slices.overlaps[ropeladder/api.Entry]", "slices.overlaps[ropeladder/api.Item]"], unfollowed := true, recurses := true, apart := false }
def LinearRejectsSaid : Prop := linearRejectsRow.holds Tryz.pinned (OpenSpec.ofChange linearRejectsSpec)

/-- ITS FALSE NEIGHBOUR: 'it returns false'. Refute it at one input. -/
def linearRejectsWrong : ChangeSpec := { name := "linearRejects", fn := fun _ => fun
  | [d1, d2, d3, d4] => { results := [.lit (.bool false)], args := [d1, d2, d3, d4] }
  | _ => none }
def LinearRejectsWrongFalsely : Prop := linearRejectsRow.holds Tryz.pinned (OpenSpec.ofChange linearRejectsWrong)

/- THE SECOND FORM. 'bulk': how many values and letters a reading holds, each counted each time it is reached (what is shared counts as often as it is met; a slice's spare places count too). A statement '..UptoSaid' is the law's where the arguments, and the package variables that the reading takes, are together of bulk at most 1048576: NARROWER than '..Said'. Prove '..Said' where nothing that the law and all that it calls make is longer than what came in: it says more and counts as full. Else prove '..UptoSaid'. A law counts once. -/
mutual
def uptoBulk {H : Type} : DataW H → Nat
  | .lit (.string bytes) => bytes.length + 1
  | .lit _ => 1
  | .nil => 1
  | .ptr d => uptoBulk d + 1
  | .slice elems spare => uptoBulkAll elems + uptoBulkAll spare + 1
  | .agg parts => uptoBulkAll parts + 1
  | .iface _ d => uptoBulk d + 1
  | .map entries => uptoBulkEntries entries + 1
  | .held _ => 1
def uptoBulkAll {H : Type} : List (DataW H) → Nat
  | [] => 0
  | d :: r => uptoBulk d + uptoBulkAll r
def uptoBulkEntries {H : Type} : List (Lit × DataW H) → Nat
  | [] => 0
  | x :: r => uptoBulkEntry x + uptoBulkEntries r
def uptoBulkEntry {H : Type} : Lit × DataW H → Nat
  | (.string bytes, d) => bytes.length + uptoBulk d + 1
  | (_, d) => uptoBulk d + 1
 end
def uptoSmall : (H : Type) → List (DataW H) → Bool := fun _ ds => decide (uptoBulkAll ds ≤ 1048576)
def OpenSpec.upto (s : _root_.Go.ChangeSpec) : _root_.Go.OpenSpec := { _root_.Go.OpenSpec.ofChange s with cond := some uptoSmall }

/-- 'ropeladdertop.TopPointsLinearize', WHERE WHAT IT READS IS OF BULK AT MOST 1048576: true; the input reads as it did. -/
def topPointsLinearizeUptoRow : OpenClaim := { program := "ytbdoinigeaaclaagreat", sum := "be9cd0266c8daa953a7ff9fffd5de83f6c1561f28afee23f9a98a5ad0edda81c", func := "ropeladder/ropeladdertop.TopPointsLinearize", spec := "topPointsLinearize", inPlace := ["slices.overlaps[ropeladder/api.Item]", "slices.overlaps[ropeladder/api.Entry]"], unfollowed := true, recurses := true, apart := false, narrowed := true }
def TopPointsLinearizeUptoSaid : Prop := topPointsLinearizeUptoRow.holds Tryz.pinned (OpenSpec.upto topPointsLinearizeSpec)

/-- 'ropeladderlaw17.LinearRuns', WHERE WHAT IT READS IS OF BULK AT MOST 1048576: true; the input reads as it did. -/
def linearRunsUptoRow : OpenClaim := { program := "ytbdoinigeaaclaagreat", sum := "be9cd0266c8daa953a7ff9fffd5de83f6c1561f28afee23f9a98a5ad0edda81c", func := "ropeladder/ropeladderlaw17.LinearRuns", spec := "linearRuns", inPlace := ["slices.overlaps[ropeladder/api.Entry]", "slices.overlaps[ropeladder/api.Item]"], unfollowed := true, recurses := true, apart := false, narrowed := true }
def LinearRunsUptoSaid : Prop := linearRunsUptoRow.holds Tryz.pinned (OpenSpec.upto linearRunsSpec)

/-- 'ropeladderlaw17.LinearRejects', WHERE WHAT IT READS IS OF BULK AT MOST 1048576: true; the input reads as it did. -/
def linearRejectsUptoRow : OpenClaim := { program := "ytbdoinigeaaclaagreat", sum := "be9cd0266c8daa953a7ff9fffd5de83f6c1561f28afee23f9a98a5ad0edda81c", func := "ropeladder/ropeladderlaw17.LinearRejects", spec := "linearRejects", inPlace := ["slices.overlaps[ropeladder/api.Entry]", "slices.overlaps[ropeladder/api.Item]"], unfollowed := true, recurses := true, apart := false, narrowed := true }
def LinearRejectsUptoSaid : Prop := linearRejectsUptoRow.holds Tryz.pinned (OpenSpec.upto linearRejectsSpec)

end Rows
end Go.Proofs.YtbdoinigeaaclaaGreat
