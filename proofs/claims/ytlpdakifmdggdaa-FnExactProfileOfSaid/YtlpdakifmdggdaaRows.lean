/-
  No cell of these rows narrows 'for every input' (looked for: loops, veiled, ifaces, maps, wideKeys, modest, calm, conditions, laid).
  DERIVED. THE GIVEN ROWS OF THIS SEAT. 6 by the template 'for every input the law returns true; each argument reads behind the call as it read before'; 0 by the template 'total and deterministic' (their statements: YtlpdakifmdggdaaTotals.lean).
  GIVEN WITH THE SEED: the statements are not yours to turn. If you find one false, say at which input.
  Laid BY PROGRAM, IN A SANDBOX (cutbox-rows.mjs): the forced cells as the released guide's own fill.sh prints them over the translation e16141a83479ba97… (all of the seat's roots in one cut). By AI agents, Wed Nov 11 2026. No macro, syntax, notation, axiom, sorry.
-/
import Derived.Test.YtlpdakifmdggdaaChecked
import GoSem.Claim
import GoSem.ClaimJoined
import GoSem.ClaimMapViews
import Derived.JoinedTies
import Derived.KernelRfl
namespace Go.Proofs.Ytlpdakifmdggdaa
/- THE CELL 'sum', in the pinned program and in every row, IS THE sha256 OF THE DUMP (.gsa) THAT YtlpdakifmdggdaaProg.lean LOADS. Nothing in Lean hashes anything: it is a label: what it is worth is what the hold of that sum in a sandbox is worth. -/
noncomputable def Try.pinned : Pinned := { name := "ytlpdakifmdggdaa", sum := "e16141a83479ba97313a8a8ab6343cfa3754fe341716b48c1e6b8ce9fc7c56a1", checked := Try.checked }
namespace Rows
def none {H : Type} : Left H := { results := [], args := [] }

/-- 'laws.FnExactPlaceCounts': WHATEVER THE INPUT: true; the input reads as it did. -/
def fnExactPlaceCountsSpec : ChangeSpec := { name := "fnExactPlaceCounts", fn := fun _ => fun
  | [d1, d2, d3] => { results := [.lit (.bool true)], args := [d1, d2, d3] }
  | _ => none }
def fnExactPlaceCountsRow : OpenClaim := { program := "ytlpdakifmdggdaa", sum := "e16141a83479ba97313a8a8ab6343cfa3754fe341716b48c1e6b8ce9fc7c56a1", func := "loop.example/lanekernel/laws.FnExactPlaceCounts", spec := "fnExactPlaceCounts", unfollowed := true, recurses := true, apart := false }
def FnExactPlaceCountsSaid : Prop := fnExactPlaceCountsRow.holds Try.pinned (OpenSpec.ofChange fnExactPlaceCountsSpec)

/-- ITS FALSE NEIGHBOUR: 'it returns false'. Refute it at one input. -/
def fnExactPlaceCountsWrong : ChangeSpec := { name := "fnExactPlaceCounts", fn := fun _ => fun
  | [d1, d2, d3] => { results := [.lit (.bool false)], args := [d1, d2, d3] }
  | _ => none }
def FnExactPlaceCountsWrongFalsely : Prop := fnExactPlaceCountsRow.holds Try.pinned (OpenSpec.ofChange fnExactPlaceCountsWrong)

/-- 'laws.FnExactHotPlace': WHATEVER THE INPUT: true; the input reads as it did. -/
def fnExactHotPlaceSpec : ChangeSpec := { name := "fnExactHotPlace", fn := fun _ => fun
  | [d1, d2, d3] => { results := [.lit (.bool true)], args := [d1, d2, d3] }
  | _ => none }
def fnExactHotPlaceRow : OpenClaim := { program := "ytlpdakifmdggdaa", sum := "e16141a83479ba97313a8a8ab6343cfa3754fe341716b48c1e6b8ce9fc7c56a1", func := "loop.example/lanekernel/laws.FnExactHotPlace", spec := "fnExactHotPlace", unfollowed := true, recurses := true, apart := false }
def FnExactHotPlaceSaid : Prop := fnExactHotPlaceRow.holds Try.pinned (OpenSpec.ofChange fnExactHotPlaceSpec)

/-- ITS FALSE NEIGHBOUR: 'it returns false'. Refute it at one input. -/
def fnExactHotPlaceWrong : ChangeSpec := { name := "fnExactHotPlace", fn := fun _ => fun
  | [d1, d2, d3] => { results := [.lit (.bool false)], args := [d1, d2, d3] }
  | _ => none }
def FnExactHotPlaceWrongFalsely : Prop := fnExactHotPlaceRow.holds Try.pinned (OpenSpec.ofChange fnExactHotPlaceWrong)

/-- 'laws.FnExactOccupancy': WHATEVER THE INPUT: true; the input reads as it did. -/
def fnExactOccupancySpec : ChangeSpec := { name := "fnExactOccupancy", fn := fun _ => fun
  | [d1, d2, d3] => { results := [.lit (.bool true)], args := [d1, d2, d3] }
  | _ => none }
def fnExactOccupancyRow : OpenClaim := { program := "ytlpdakifmdggdaa", sum := "e16141a83479ba97313a8a8ab6343cfa3754fe341716b48c1e6b8ce9fc7c56a1", func := "loop.example/lanekernel/laws.FnExactOccupancy", spec := "fnExactOccupancy", unfollowed := true, recurses := true, apart := false }
def FnExactOccupancySaid : Prop := fnExactOccupancyRow.holds Try.pinned (OpenSpec.ofChange fnExactOccupancySpec)

/-- ITS FALSE NEIGHBOUR: 'it returns false'. Refute it at one input. -/
def fnExactOccupancyWrong : ChangeSpec := { name := "fnExactOccupancy", fn := fun _ => fun
  | [d1, d2, d3] => { results := [.lit (.bool false)], args := [d1, d2, d3] }
  | _ => none }
def FnExactOccupancyWrongFalsely : Prop := fnExactOccupancyRow.holds Try.pinned (OpenSpec.ofChange fnExactOccupancyWrong)

/-- 'laws.FnExactProfileOf': WHATEVER THE INPUT: true; the input reads as it did. -/
def fnExactProfileOfSpec : ChangeSpec := { name := "fnExactProfileOf", fn := fun _ => fun
  | [d1, d2, d3] => { results := [.lit (.bool true)], args := [d1, d2, d3] }
  | _ => none }
def fnExactProfileOfRow : OpenClaim := { program := "ytlpdakifmdggdaa", sum := "e16141a83479ba97313a8a8ab6343cfa3754fe341716b48c1e6b8ce9fc7c56a1", func := "loop.example/lanekernel/laws.FnExactProfileOf", spec := "fnExactProfileOf", unfollowed := true, recurses := true, apart := false }
def FnExactProfileOfSaid : Prop := fnExactProfileOfRow.holds Try.pinned (OpenSpec.ofChange fnExactProfileOfSpec)

/-- ITS FALSE NEIGHBOUR: 'it returns false'. Refute it at one input. -/
def fnExactProfileOfWrong : ChangeSpec := { name := "fnExactProfileOf", fn := fun _ => fun
  | [d1, d2, d3] => { results := [.lit (.bool false)], args := [d1, d2, d3] }
  | _ => none }
def FnExactProfileOfWrongFalsely : Prop := fnExactProfileOfRow.holds Try.pinned (OpenSpec.ofChange fnExactProfileOfWrong)

/-- 'laws.FnExactRunGroups': WHATEVER THE INPUT: true; the input reads as it did. -/
def fnExactRunGroupsSpec : ChangeSpec := { name := "fnExactRunGroups", fn := fun _ => fun
  | [d1, d2, d3, d4, d5] => { results := [.lit (.bool true)], args := [d1, d2, d3, d4, d5] }
  | _ => none }
def fnExactRunGroupsRow : OpenClaim := { program := "ytlpdakifmdggdaa", sum := "e16141a83479ba97313a8a8ab6343cfa3754fe341716b48c1e6b8ce9fc7c56a1", func := "loop.example/lanekernel/laws.FnExactRunGroups", spec := "fnExactRunGroups", unfollowed := true, recurses := true, apart := false }
def FnExactRunGroupsSaid : Prop := fnExactRunGroupsRow.holds Try.pinned (OpenSpec.ofChange fnExactRunGroupsSpec)

/-- ITS FALSE NEIGHBOUR: 'it returns false'. Refute it at one input. -/
def fnExactRunGroupsWrong : ChangeSpec := { name := "fnExactRunGroups", fn := fun _ => fun
  | [d1, d2, d3, d4, d5] => { results := [.lit (.bool false)], args := [d1, d2, d3, d4, d5] }
  | _ => none }
def FnExactRunGroupsWrongFalsely : Prop := fnExactRunGroupsRow.holds Try.pinned (OpenSpec.ofChange fnExactRunGroupsWrong)

/-- 'laws.FnExactSameMemory': WHATEVER THE INPUT: true; the input reads as it did. -/
def fnExactSameMemorySpec : ChangeSpec := { name := "fnExactSameMemory", fn := fun _ => fun
  | [d1, d2, d3, d4] => { results := [.lit (.bool true)], args := [d1, d2, d3, d4] }
  | _ => none }
def fnExactSameMemoryRow : OpenClaim := { program := "ytlpdakifmdggdaa", sum := "e16141a83479ba97313a8a8ab6343cfa3754fe341716b48c1e6b8ce9fc7c56a1", func := "loop.example/lanekernel/laws.FnExactSameMemory", spec := "fnExactSameMemory", unfollowed := true, recurses := true, apart := false }
def FnExactSameMemorySaid : Prop := fnExactSameMemoryRow.holds Try.pinned (OpenSpec.ofChange fnExactSameMemorySpec)

/-- ITS FALSE NEIGHBOUR: 'it returns false'. Refute it at one input. -/
def fnExactSameMemoryWrong : ChangeSpec := { name := "fnExactSameMemory", fn := fun _ => fun
  | [d1, d2, d3, d4] => { results := [.lit (.bool false)], args := [d1, d2, d3, d4] }
  | _ => none }
def FnExactSameMemoryWrongFalsely : Prop := fnExactSameMemoryRow.holds Try.pinned (OpenSpec.ofChange fnExactSameMemoryWrong)

/- THE SECOND FORM. 'bulk': how many values and letters a reading holds, each counted each time it is reached (what is shared counts as often as it is met; a slice's spare places count too). A statement '..UptoSaid' is the law's where the arguments, and the package variables that the reading takes, are together of bulk at most 1048576: NARROWER than '..Said'. Prove '..Said' where nothing that the law and all that it calls make is longer than what came in: it says more and counts as full. Else prove '..UptoSaid'. A law counts once. -/
mutual
def uptoBulk {H : Type} : DataW H → Nat
  | .lit (.string bytes) => bytes.length + 1
  | .lit _ => 1
  | .nil => 1
  | .ptr d => uptoBulk d + 1
  | .slice elems spare => uptoBulkAll elems + uptoBulkAll spare + 1
  | .agg parts => uptoBulkAll parts + 1
  | .iface _ d => uptoBulk d + 1
  | .map entries => uptoBulkEntries entries + 1
  | .held _ => 1
def uptoBulkAll {H : Type} : List (DataW H) → Nat
  | [] => 0
  | d :: r => uptoBulk d + uptoBulkAll r
def uptoBulkEntries {H : Type} : List (Lit × DataW H) → Nat
  | [] => 0
  | x :: r => uptoBulkEntry x + uptoBulkEntries r
def uptoBulkEntry {H : Type} : Lit × DataW H → Nat
  | (.string bytes, d) => bytes.length + uptoBulk d + 1
  | (_, d) => uptoBulk d + 1
 end
def uptoSmall : (H : Type) → List (DataW H) → Bool := fun _ ds => decide (uptoBulkAll ds ≤ 1048576)
def OpenSpec.upto (s : _root_.Go.ChangeSpec) : _root_.Go.OpenSpec := { _root_.Go.OpenSpec.ofChange s with cond := some uptoSmall }

/-- 'laws.FnExactPlaceCounts', WHERE WHAT IT READS IS OF BULK AT MOST 1048576: true; the input reads as it did. -/
def fnExactPlaceCountsUptoRow : OpenClaim := { program := "ytlpdakifmdggdaa", sum := "e16141a83479ba97313a8a8ab6343cfa3754fe341716b48c1e6b8ce9fc7c56a1", func := "loop.example/lanekernel/laws.FnExactPlaceCounts", spec := "fnExactPlaceCounts", unfollowed := true, recurses := true, apart := false, narrowed := true }
def FnExactPlaceCountsUptoSaid : Prop := fnExactPlaceCountsUptoRow.holds Try.pinned (OpenSpec.upto fnExactPlaceCountsSpec)

/-- 'laws.FnExactHotPlace', WHERE WHAT IT READS IS OF BULK AT MOST 1048576: true; the input reads as it did. -/
def fnExactHotPlaceUptoRow : OpenClaim := { program := "ytlpdakifmdggdaa", sum := "e16141a83479ba97313a8a8ab6343cfa3754fe341716b48c1e6b8ce9fc7c56a1", func := "loop.example/lanekernel/laws.FnExactHotPlace", spec := "fnExactHotPlace", unfollowed := true, recurses := true, apart := false, narrowed := true }
def FnExactHotPlaceUptoSaid : Prop := fnExactHotPlaceUptoRow.holds Try.pinned (OpenSpec.upto fnExactHotPlaceSpec)

/-- 'laws.FnExactOccupancy', WHERE WHAT IT READS IS OF BULK AT MOST 1048576: true; the input reads as it did. -/
def fnExactOccupancyUptoRow : OpenClaim := { program := "ytlpdakifmdggdaa", sum := "e16141a83479ba97313a8a8ab6343cfa3754fe341716b48c1e6b8ce9fc7c56a1", func := "loop.example/lanekernel/laws.FnExactOccupancy", spec := "fnExactOccupancy", unfollowed := true, recurses := true, apart := false, narrowed := true }
def FnExactOccupancyUptoSaid : Prop := fnExactOccupancyUptoRow.holds Try.pinned (OpenSpec.upto fnExactOccupancySpec)

/-- 'laws.FnExactProfileOf', WHERE WHAT IT READS IS OF BULK AT MOST 1048576: true; the input reads as it did. -/
def fnExactProfileOfUptoRow : OpenClaim := { program := "ytlpdakifmdggdaa", sum := "e16141a83479ba97313a8a8ab6343cfa3754fe341716b48c1e6b8ce9fc7c56a1", func := "loop.example/lanekernel/laws.FnExactProfileOf", spec := "fnExactProfileOf", unfollowed := true, recurses := true, apart := false, narrowed := true }
def FnExactProfileOfUptoSaid : Prop := fnExactProfileOfUptoRow.holds Try.pinned (OpenSpec.upto fnExactProfileOfSpec)

/-- 'laws.FnExactRunGroups', WHERE WHAT IT READS IS OF BULK AT MOST 1048576: true; the input reads as it did. -/
def fnExactRunGroupsUptoRow : OpenClaim := { program := "ytlpdakifmdggdaa", sum := "e16141a83479ba97313a8a8ab6343cfa3754fe341716b48c1e6b8ce9fc7c56a1", func := "loop.example/lanekernel/laws.FnExactRunGroups", spec := "fnExactRunGroups", unfollowed := true, recurses := true, apart := false, narrowed := true }
def FnExactRunGroupsUptoSaid : Prop := fnExactRunGroupsUptoRow.holds Try.pinned (OpenSpec.upto fnExactRunGroupsSpec)

/-- 'laws.FnExactSameMemory', WHERE WHAT IT READS IS OF BULK AT MOST 1048576: true; the input reads as it did. -/
def fnExactSameMemoryUptoRow : OpenClaim := { program := "ytlpdakifmdggdaa", sum := "e16141a83479ba97313a8a8ab6343cfa3754fe341716b48c1e6b8ce9fc7c56a1", func := "loop.example/lanekernel/laws.FnExactSameMemory", spec := "fnExactSameMemory", unfollowed := true, recurses := true, apart := false, narrowed := true }
def FnExactSameMemoryUptoSaid : Prop := fnExactSameMemoryUptoRow.holds Try.pinned (OpenSpec.upto fnExactSameMemorySpec)

end Rows
end Go.Proofs.Ytlpdakifmdggdaa
