/-
  No cell of these rows narrows 'for every input' (looked for: loops, veiled, ifaces, maps, wideKeys, modest, calm, conditions, laid).
  DERIVED. THE GIVEN ROWS OF THIS SEAT. 6 by the template 'for every input the law returns true; each argument reads behind the call as it read before'; 0 by the template 'total and deterministic' (their statements: YtoiihjbdcjllbaaTotals.lean).
  GIVEN WITH THE SEED: the statements are not yours to turn. If you find one false, say at which input.
  Laid BY PROGRAM, IN A SANDBOX (cutbox-rows.mjs): the forced cells as the released guide's own fill.sh prints them over the translation aee8e693d2ec2bae… (all of the seat's roots in one cut). By AI agents, Wed Nov 11 2026. No macro, syntax, notation, axiom, sorry.
-/
import Derived.Test.YtoiihjbdcjllbaaChecked
import GoSem.Claim
import GoSem.ClaimJoined
import GoSem.ClaimMapViews
import Derived.JoinedTies
import Derived.KernelRfl
namespace Go.Proofs.Ytoiihjbdcjllbaa
/- THE CELL 'sum', in the pinned program and in every row, IS THE sha256 OF THE DUMP (.gsa) THAT YtoiihjbdcjllbaaProg.lean LOADS. Nothing in Lean hashes anything: it is a label: what it is worth is what the hold of that sum in a sandbox is worth. -/
noncomputable def Try.pinned : Pinned := { name := "ytoiihjbdcjllbaa", sum := "aee8e693d2ec2bae5667c8e91cccc8ba878d590d61f0c40c216def63d98703c1", checked := Try.checked }
namespace Rows
def none {H : Type} : Left H := { results := [], args := [] }

/-- 'laws.FnTraceCost': WHATEVER THE INPUT: true; the input reads as it did. -/
def fnTraceCostSpec : ChangeSpec := { name := "fnTraceCost", fn := fun _ => fun
  | [d] => { results := [.lit (.bool true)], args := [d] }
  | _ => none }
def fnTraceCostRow : OpenClaim := { program := "ytoiihjbdcjllbaa", sum := "aee8e693d2ec2bae5667c8e91cccc8ba878d590d61f0c40c216def63d98703c1", func := "loop.example/lanekernel/laws.FnTraceCost", spec := "fnTraceCost", unfollowed := true, recurses := true, apart := false }
def FnTraceCostSaid : Prop := fnTraceCostRow.holds Try.pinned (OpenSpec.ofChange fnTraceCostSpec)

/-- ITS FALSE NEIGHBOUR: 'it returns false'. Refute it at one input. -/
def fnTraceCostWrong : ChangeSpec := { name := "fnTraceCost", fn := fun _ => fun
  | [d] => { results := [.lit (.bool false)], args := [d] }
  | _ => none }
def FnTraceCostWrongFalsely : Prop := fnTraceCostRow.holds Try.pinned (OpenSpec.ofChange fnTraceCostWrong)

/-- 'laws.FnWrapAlways': WHATEVER THE INPUT: true; the input reads as it did. -/
def fnWrapAlwaysSpec : ChangeSpec := { name := "fnWrapAlways", fn := fun _ => fun
  | [d] => { results := [.lit (.bool true)], args := [d] }
  | _ => none }
def fnWrapAlwaysRow : OpenClaim := { program := "ytoiihjbdcjllbaa", sum := "aee8e693d2ec2bae5667c8e91cccc8ba878d590d61f0c40c216def63d98703c1", func := "loop.example/lanekernel/laws.FnWrapAlways", spec := "fnWrapAlways", unfollowed := true, recurses := true, apart := false }
def FnWrapAlwaysSaid : Prop := fnWrapAlwaysRow.holds Try.pinned (OpenSpec.ofChange fnWrapAlwaysSpec)

/-- ITS FALSE NEIGHBOUR: 'it returns false'. Refute it at one input. -/
def fnWrapAlwaysWrong : ChangeSpec := { name := "fnWrapAlways", fn := fun _ => fun
  | [d] => { results := [.lit (.bool false)], args := [d] }
  | _ => none }
def FnWrapAlwaysWrongFalsely : Prop := fnWrapAlwaysRow.holds Try.pinned (OpenSpec.ofChange fnWrapAlwaysWrong)

/-- 'laws.FnNamesAccesses': WHATEVER THE INPUT: true; the input reads as it did. -/
def fnNamesAccessesSpec : ChangeSpec := { name := "fnNamesAccesses", fn := fun _ => fun
  | [d1, d2] => { results := [.lit (.bool true)], args := [d1, d2] }
  | _ => none }
def fnNamesAccessesRow : OpenClaim := { program := "ytoiihjbdcjllbaa", sum := "aee8e693d2ec2bae5667c8e91cccc8ba878d590d61f0c40c216def63d98703c1", func := "loop.example/lanekernel/laws.FnNamesAccesses", spec := "fnNamesAccesses", unfollowed := true, recurses := true, apart := false }
def FnNamesAccessesSaid : Prop := fnNamesAccessesRow.holds Try.pinned (OpenSpec.ofChange fnNamesAccessesSpec)

/-- ITS FALSE NEIGHBOUR: 'it returns false'. Refute it at one input. -/
def fnNamesAccessesWrong : ChangeSpec := { name := "fnNamesAccesses", fn := fun _ => fun
  | [d1, d2] => { results := [.lit (.bool false)], args := [d1, d2] }
  | _ => none }
def FnNamesAccessesWrongFalsely : Prop := fnNamesAccessesRow.holds Try.pinned (OpenSpec.ofChange fnNamesAccessesWrong)

/-- 'laws.FnPickAccesses': WHATEVER THE INPUT: true; the input reads as it did. -/
def fnPickAccessesSpec : ChangeSpec := { name := "fnPickAccesses", fn := fun _ => fun
  | [d] => { results := [.lit (.bool true)], args := [d] }
  | _ => none }
def fnPickAccessesRow : OpenClaim := { program := "ytoiihjbdcjllbaa", sum := "aee8e693d2ec2bae5667c8e91cccc8ba878d590d61f0c40c216def63d98703c1", func := "loop.example/lanekernel/laws.FnPickAccesses", spec := "fnPickAccesses", unfollowed := true, recurses := true, apart := false }
def FnPickAccessesSaid : Prop := fnPickAccessesRow.holds Try.pinned (OpenSpec.ofChange fnPickAccessesSpec)

/-- ITS FALSE NEIGHBOUR: 'it returns false'. Refute it at one input. -/
def fnPickAccessesWrong : ChangeSpec := { name := "fnPickAccesses", fn := fun _ => fun
  | [d] => { results := [.lit (.bool false)], args := [d] }
  | _ => none }
def FnPickAccessesWrongFalsely : Prop := fnPickAccessesRow.holds Try.pinned (OpenSpec.ofChange fnPickAccessesWrong)

/-- 'laws.FnPeelAccesses': WHATEVER THE INPUT: true; the input reads as it did. -/
def fnPeelAccessesSpec : ChangeSpec := { name := "fnPeelAccesses", fn := fun _ => fun
  | [d] => { results := [.lit (.bool true)], args := [d] }
  | _ => none }
def fnPeelAccessesRow : OpenClaim := { program := "ytoiihjbdcjllbaa", sum := "aee8e693d2ec2bae5667c8e91cccc8ba878d590d61f0c40c216def63d98703c1", func := "loop.example/lanekernel/laws.FnPeelAccesses", spec := "fnPeelAccesses", unfollowed := true, recurses := true, apart := false }
def FnPeelAccessesSaid : Prop := fnPeelAccessesRow.holds Try.pinned (OpenSpec.ofChange fnPeelAccessesSpec)

/-- ITS FALSE NEIGHBOUR: 'it returns false'. Refute it at one input. -/
def fnPeelAccessesWrong : ChangeSpec := { name := "fnPeelAccesses", fn := fun _ => fun
  | [d] => { results := [.lit (.bool false)], args := [d] }
  | _ => none }
def FnPeelAccessesWrongFalsely : Prop := fnPeelAccessesRow.holds Try.pinned (OpenSpec.ofChange fnPeelAccessesWrong)

/-- 'laws.FnDropWrites': WHATEVER THE INPUT: true; the input reads as it did. -/
def fnDropWritesSpec : ChangeSpec := { name := "fnDropWrites", fn := fun _ => fun
  | [d] => { results := [.lit (.bool true)], args := [d] }
  | _ => none }
def fnDropWritesRow : OpenClaim := { program := "ytoiihjbdcjllbaa", sum := "aee8e693d2ec2bae5667c8e91cccc8ba878d590d61f0c40c216def63d98703c1", func := "loop.example/lanekernel/laws.FnDropWrites", spec := "fnDropWrites", unfollowed := true, recurses := true, apart := false }
def FnDropWritesSaid : Prop := fnDropWritesRow.holds Try.pinned (OpenSpec.ofChange fnDropWritesSpec)

/-- ITS FALSE NEIGHBOUR: 'it returns false'. Refute it at one input. -/
def fnDropWritesWrong : ChangeSpec := { name := "fnDropWrites", fn := fun _ => fun
  | [d] => { results := [.lit (.bool false)], args := [d] }
  | _ => none }
def FnDropWritesWrongFalsely : Prop := fnDropWritesRow.holds Try.pinned (OpenSpec.ofChange fnDropWritesWrong)

/- THE SECOND FORM. 'bulk': how many values and letters a reading holds, each counted each time it is reached (what is shared counts as often as it is met; a slice's spare places count too). A statement '..UptoSaid' is the law's where the arguments, and the package variables that the reading takes, are together of bulk at most 1048576: NARROWER than '..Said'. Prove '..Said' where nothing that the law and all that it calls make is longer than what came in: it says more and counts as full. Else prove '..UptoSaid'. A law counts once. -/
mutual
def uptoBulk {H : Type} : DataW H → Nat
  | .lit (.string bytes) => bytes.length + 1
  | .lit _ => 1
  | .nil => 1
  | .ptr d => uptoBulk d + 1
  | .slice elems spare => uptoBulkAll elems + uptoBulkAll spare + 1
  | .agg parts => uptoBulkAll parts + 1
  | .iface _ d => uptoBulk d + 1
  | .map entries => uptoBulkEntries entries + 1
  | .held _ => 1
def uptoBulkAll {H : Type} : List (DataW H) → Nat
  | [] => 0
  | d :: r => uptoBulk d + uptoBulkAll r
def uptoBulkEntries {H : Type} : List (Lit × DataW H) → Nat
  | [] => 0
  | x :: r => uptoBulkEntry x + uptoBulkEntries r
def uptoBulkEntry {H : Type} : Lit × DataW H → Nat
  | (.string bytes, d) => bytes.length + uptoBulk d + 1
  | (_, d) => uptoBulk d + 1
 end
def uptoSmall : (H : Type) → List (DataW H) → Bool := fun _ ds => decide (uptoBulkAll ds ≤ 1048576)
def OpenSpec.upto (s : _root_.Go.ChangeSpec) : _root_.Go.OpenSpec := { _root_.Go.OpenSpec.ofChange s with cond := some uptoSmall }

/-- 'laws.FnTraceCost', WHERE WHAT IT READS IS OF BULK AT MOST 1048576: true; the input reads as it did. -/
def fnTraceCostUptoRow : OpenClaim := { program := "ytoiihjbdcjllbaa", sum := "aee8e693d2ec2bae5667c8e91cccc8ba878d590d61f0c40c216def63d98703c1", func := "loop.example/lanekernel/laws.FnTraceCost", spec := "fnTraceCost", unfollowed := true, recurses := true, apart := false, narrowed := true }
def FnTraceCostUptoSaid : Prop := fnTraceCostUptoRow.holds Try.pinned (OpenSpec.upto fnTraceCostSpec)

/-- 'laws.FnWrapAlways', WHERE WHAT IT READS IS OF BULK AT MOST 1048576: true; the input reads as it did. -/
def fnWrapAlwaysUptoRow : OpenClaim := { program := "ytoiihjbdcjllbaa", sum := "aee8e693d2ec2bae5667c8e91cccc8ba878d590d61f0c40c216def63d98703c1", func := "loop.example/lanekernel/laws.FnWrapAlways", spec := "fnWrapAlways", unfollowed := true, recurses := true, apart := false, narrowed := true }
def FnWrapAlwaysUptoSaid : Prop := fnWrapAlwaysUptoRow.holds Try.pinned (OpenSpec.upto fnWrapAlwaysSpec)

/-- 'laws.FnNamesAccesses', WHERE WHAT IT READS IS OF BULK AT MOST 1048576: true; the input reads as it did. -/
def fnNamesAccessesUptoRow : OpenClaim := { program := "ytoiihjbdcjllbaa", sum := "aee8e693d2ec2bae5667c8e91cccc8ba878d590d61f0c40c216def63d98703c1", func := "loop.example/lanekernel/laws.FnNamesAccesses", spec := "fnNamesAccesses", unfollowed := true, recurses := true, apart := false, narrowed := true }
def FnNamesAccessesUptoSaid : Prop := fnNamesAccessesUptoRow.holds Try.pinned (OpenSpec.upto fnNamesAccessesSpec)

/-- 'laws.FnPickAccesses', WHERE WHAT IT READS IS OF BULK AT MOST 1048576: true; the input reads as it did. -/
def fnPickAccessesUptoRow : OpenClaim := { program := "ytoiihjbdcjllbaa", sum := "aee8e693d2ec2bae5667c8e91cccc8ba878d590d61f0c40c216def63d98703c1", func := "loop.example/lanekernel/laws.FnPickAccesses", spec := "fnPickAccesses", unfollowed := true, recurses := true, apart := false, narrowed := true }
def FnPickAccessesUptoSaid : Prop := fnPickAccessesUptoRow.holds Try.pinned (OpenSpec.upto fnPickAccessesSpec)

/-- 'laws.FnPeelAccesses', WHERE WHAT IT READS IS OF BULK AT MOST 1048576: true; the input reads as it did. -/
def fnPeelAccessesUptoRow : OpenClaim := { program := "ytoiihjbdcjllbaa", sum := "aee8e693d2ec2bae5667c8e91cccc8ba878d590d61f0c40c216def63d98703c1", func := "loop.example/lanekernel/laws.FnPeelAccesses", spec := "fnPeelAccesses", unfollowed := true, recurses := true, apart := false, narrowed := true }
def FnPeelAccessesUptoSaid : Prop := fnPeelAccessesUptoRow.holds Try.pinned (OpenSpec.upto fnPeelAccessesSpec)

/-- 'laws.FnDropWrites', WHERE WHAT IT READS IS OF BULK AT MOST 1048576: true; the input reads as it did. -/
def fnDropWritesUptoRow : OpenClaim := { program := "ytoiihjbdcjllbaa", sum := "aee8e693d2ec2bae5667c8e91cccc8ba878d590d61f0c40c216def63d98703c1", func := "loop.example/lanekernel/laws.FnDropWrites", spec := "fnDropWrites", unfollowed := true, recurses := true, apart := false, narrowed := true }
def FnDropWritesUptoSaid : Prop := fnDropWritesUptoRow.holds Try.pinned (OpenSpec.upto fnDropWritesSpec)

end Rows
end Go.Proofs.Ytoiihjbdcjllbaa
