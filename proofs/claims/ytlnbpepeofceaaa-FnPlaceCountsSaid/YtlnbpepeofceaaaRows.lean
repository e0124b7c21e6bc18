/-
  No cell of these rows narrows 'for every input' (looked for: loops, veiled, ifaces, maps, wideKeys, modest, calm, conditions, laid).
  DERIVED. THE GIVEN ROWS OF THIS SEAT. 7 by the template 'for every input the law returns true; each argument reads behind the call as it read before'; 0 by the template 'total and deterministic' (their statements: YtlnbpepeofceaaaTotals.lean).
  GIVEN WITH THE SEED: the statements are not yours to turn. If you find one false, say at which input.
  Laid BY PROGRAM, IN A SANDBOX (cutbox-rows.mjs): the forced cells as the released guide's own fill.sh prints them over the translation bef2a1729d80f3c6… (all of the seat's roots in one cut). By AI agents, Wed Nov 11 2026. No macro, syntax, notation, axiom, sorry.
-/
import Derived.Test.YtlnbpepeofceaaaChecked
import GoSem.Claim
import GoSem.ClaimJoined
import GoSem.ClaimMapViews
import Derived.JoinedTies
import Derived.KernelRfl
namespace Go.Proofs.Ytlnbpepeofceaaa
/- THE CELL 'sum', in the pinned program and in every row, IS THE sha256 OF THE DUMP (.gsa) THAT YtlnbpepeofceaaaProg.lean LOADS. Nothing in Lean hashes anything: it is a label: what it is worth is what the hold of that sum in a sandbox is worth. -/
noncomputable def Try.pinned : Pinned := { name := "ytlnbpepeofceaaa", sum := "bef2a1729d80f3c68436ceb464c3e45cbe01a597910203d71e3f71a43c4d7a6b", checked := Try.checked }
namespace Rows
def none {H : Type} : Left H := { results := [], args := [] }

/-- 'laws.FnPlaceCounts': WHATEVER THE INPUT: true; the input reads as it did. -/
def fnPlaceCountsSpec : ChangeSpec := { name := "fnPlaceCounts", fn := fun _ => fun
  | [d] => { results := [.lit (.bool true)], args := [d] }
  | _ => none }
def fnPlaceCountsRow : OpenClaim := { program := "ytlnbpepeofceaaa", sum := "bef2a1729d80f3c68436ceb464c3e45cbe01a597910203d71e3f71a43c4d7a6b", func := "loop.example/lanekernel/laws.FnPlaceCounts", spec := "fnPlaceCounts", unfollowed := true, recurses := true, apart := false }
def FnPlaceCountsSaid : Prop := fnPlaceCountsRow.holds Try.pinned (OpenSpec.ofChange fnPlaceCountsSpec)

/-- ITS FALSE NEIGHBOUR: 'it returns false'. Refute it at one input. -/
def fnPlaceCountsWrong : ChangeSpec := { name := "fnPlaceCounts", fn := fun _ => fun
  | [d] => { results := [.lit (.bool false)], args := [d] }
  | _ => none }
def FnPlaceCountsWrongFalsely : Prop := fnPlaceCountsRow.holds Try.pinned (OpenSpec.ofChange fnPlaceCountsWrong)

/-- 'laws.FnHotPlace': WHATEVER THE INPUT: true; the input reads as it did. -/
def fnHotPlaceSpec : ChangeSpec := { name := "fnHotPlace", fn := fun _ => fun
  | [d] => { results := [.lit (.bool true)], args := [d] }
  | _ => none }
def fnHotPlaceRow : OpenClaim := { program := "ytlnbpepeofceaaa", sum := "bef2a1729d80f3c68436ceb464c3e45cbe01a597910203d71e3f71a43c4d7a6b", func := "loop.example/lanekernel/laws.FnHotPlace", spec := "fnHotPlace", unfollowed := true, recurses := true, apart := false }
def FnHotPlaceSaid : Prop := fnHotPlaceRow.holds Try.pinned (OpenSpec.ofChange fnHotPlaceSpec)

/-- ITS FALSE NEIGHBOUR: 'it returns false'. Refute it at one input. -/
def fnHotPlaceWrong : ChangeSpec := { name := "fnHotPlace", fn := fun _ => fun
  | [d] => { results := [.lit (.bool false)], args := [d] }
  | _ => none }
def FnHotPlaceWrongFalsely : Prop := fnHotPlaceRow.holds Try.pinned (OpenSpec.ofChange fnHotPlaceWrong)

/-- 'laws.FnProfilePlaces': WHATEVER THE INPUT: true; the input reads as it did. -/
def fnProfilePlacesSpec : ChangeSpec := { name := "fnProfilePlaces", fn := fun _ => fun
  | [d] => { results := [.lit (.bool true)], args := [d] }
  | _ => none }
def fnProfilePlacesRow : OpenClaim := { program := "ytlnbpepeofceaaa", sum := "bef2a1729d80f3c68436ceb464c3e45cbe01a597910203d71e3f71a43c4d7a6b", func := "loop.example/lanekernel/laws.FnProfilePlaces", spec := "fnProfilePlaces", unfollowed := true, recurses := true, apart := false }
def FnProfilePlacesSaid : Prop := fnProfilePlacesRow.holds Try.pinned (OpenSpec.ofChange fnProfilePlacesSpec)

/-- ITS FALSE NEIGHBOUR: 'it returns false'. Refute it at one input. -/
def fnProfilePlacesWrong : ChangeSpec := { name := "fnProfilePlaces", fn := fun _ => fun
  | [d] => { results := [.lit (.bool false)], args := [d] }
  | _ => none }
def FnProfilePlacesWrongFalsely : Prop := fnProfilePlacesRow.holds Try.pinned (OpenSpec.ofChange fnProfilePlacesWrong)

/-- 'laws.FnProfileOne': WHATEVER THE INPUT: true; the input reads as it did. -/
def fnProfileOneSpec : ChangeSpec := { name := "fnProfileOne", fn := fun _ => fun
  | [d] => { results := [.lit (.bool true)], args := [d] }
  | _ => none }
def fnProfileOneRow : OpenClaim := { program := "ytlnbpepeofceaaa", sum := "bef2a1729d80f3c68436ceb464c3e45cbe01a597910203d71e3f71a43c4d7a6b", func := "loop.example/lanekernel/laws.FnProfileOne", spec := "fnProfileOne", unfollowed := true, recurses := true, apart := false }
def FnProfileOneSaid : Prop := fnProfileOneRow.holds Try.pinned (OpenSpec.ofChange fnProfileOneSpec)

/-- ITS FALSE NEIGHBOUR: 'it returns false'. Refute it at one input. -/
def fnProfileOneWrong : ChangeSpec := { name := "fnProfileOne", fn := fun _ => fun
  | [d] => { results := [.lit (.bool false)], args := [d] }
  | _ => none }
def FnProfileOneWrongFalsely : Prop := fnProfileOneRow.holds Try.pinned (OpenSpec.ofChange fnProfileOneWrong)

/-- 'laws.FnProfileOf': WHATEVER THE INPUT: true; the input reads as it did. -/
def fnProfileOfSpec : ChangeSpec := { name := "fnProfileOf", fn := fun _ => fun
  | [d] => { results := [.lit (.bool true)], args := [d] }
  | _ => none }
def fnProfileOfRow : OpenClaim := { program := "ytlnbpepeofceaaa", sum := "bef2a1729d80f3c68436ceb464c3e45cbe01a597910203d71e3f71a43c4d7a6b", func := "loop.example/lanekernel/laws.FnProfileOf", spec := "fnProfileOf", unfollowed := true, recurses := true, apart := false }
def FnProfileOfSaid : Prop := fnProfileOfRow.holds Try.pinned (OpenSpec.ofChange fnProfileOfSpec)

/-- ITS FALSE NEIGHBOUR: 'it returns false'. Refute it at one input. -/
def fnProfileOfWrong : ChangeSpec := { name := "fnProfileOf", fn := fun _ => fun
  | [d] => { results := [.lit (.bool false)], args := [d] }
  | _ => none }
def FnProfileOfWrongFalsely : Prop := fnProfileOfRow.holds Try.pinned (OpenSpec.ofChange fnProfileOfWrong)

/-- 'laws.FnOccupancy': WHATEVER THE INPUT: true; the input reads as it did. -/
def fnOccupancySpec : ChangeSpec := { name := "fnOccupancy", fn := fun _ => fun
  | [d] => { results := [.lit (.bool true)], args := [d] }
  | _ => none }
def fnOccupancyRow : OpenClaim := { program := "ytlnbpepeofceaaa", sum := "bef2a1729d80f3c68436ceb464c3e45cbe01a597910203d71e3f71a43c4d7a6b", func := "loop.example/lanekernel/laws.FnOccupancy", spec := "fnOccupancy", unfollowed := true, recurses := true, apart := false }
def FnOccupancySaid : Prop := fnOccupancyRow.holds Try.pinned (OpenSpec.ofChange fnOccupancySpec)

/-- ITS FALSE NEIGHBOUR: 'it returns false'. Refute it at one input. -/
def fnOccupancyWrong : ChangeSpec := { name := "fnOccupancy", fn := fun _ => fun
  | [d] => { results := [.lit (.bool false)], args := [d] }
  | _ => none }
def FnOccupancyWrongFalsely : Prop := fnOccupancyRow.holds Try.pinned (OpenSpec.ofChange fnOccupancyWrong)

/-- 'laws.FnOccupancyBranch': WHATEVER THE INPUT: true; the input reads as it did. -/
def fnOccupancyBranchSpec : ChangeSpec := { name := "fnOccupancyBranch", fn := fun _ => fun
  | [d] => { results := [.lit (.bool true)], args := [d] }
  | _ => none }
def fnOccupancyBranchRow : OpenClaim := { program := "ytlnbpepeofceaaa", sum := "bef2a1729d80f3c68436ceb464c3e45cbe01a597910203d71e3f71a43c4d7a6b", func := "loop.example/lanekernel/laws.FnOccupancyBranch", spec := "fnOccupancyBranch", unfollowed := true, recurses := true, apart := false }
def FnOccupancyBranchSaid : Prop := fnOccupancyBranchRow.holds Try.pinned (OpenSpec.ofChange fnOccupancyBranchSpec)

/-- ITS FALSE NEIGHBOUR: 'it returns false'. Refute it at one input. -/
def fnOccupancyBranchWrong : ChangeSpec := { name := "fnOccupancyBranch", fn := fun _ => fun
  | [d] => { results := [.lit (.bool false)], args := [d] }
  | _ => none }
def FnOccupancyBranchWrongFalsely : Prop := fnOccupancyBranchRow.holds Try.pinned (OpenSpec.ofChange fnOccupancyBranchWrong)

/- THE SECOND FORM. 'bulk': how many values and letters a reading holds, each counted each time it is reached (what is shared counts as often as it is met; a slice's spare places count too). A statement '..UptoSaid' is the law's where the arguments, and the package variables that the reading takes, are together of bulk at most 1048576: NARROWER than '..Said'. Prove '..Said' where nothing that the law and all that it calls make is longer than what came in: it says more and counts as full. Else prove '..UptoSaid'. A law counts once. -/
mutual
def uptoBulk {H : Type} : DataW H → Nat
  | .lit (.string bytes) => bytes.length + 1
  | .lit _ => 1
  | .nil => 1
  | .ptr d => uptoBulk d + 1
  | .slice elems spare => uptoBulkAll elems + uptoBulkAll spare + 1
  | .agg parts => uptoBulkAll parts + 1
  | .iface _ d => uptoBulk d + 1
  | .map entries => uptoBulkEntries entries + 1
  | .held _ => 1
def uptoBulkAll {H : Type} : List (DataW H) → Nat
  | [] => 0
  | d :: r => uptoBulk d + uptoBulkAll r
def uptoBulkEntries {H : Type} : List (Lit × DataW H) → Nat
  | [] => 0
  | x :: r => uptoBulkEntry x + uptoBulkEntries r
def uptoBulkEntry {H : Type} : Lit × DataW H → Nat
  | (.string bytes, d) => bytes.length + uptoBulk d + 1
  | (_, d) => uptoBulk d + 1
 end
def uptoSmall : (H : Type) → List (DataW H) → Bool := fun _ ds => decide (uptoBulkAll ds ≤ 1048576)
def OpenSpec.upto (s : _root_.Go.ChangeSpec) : _root_.Go.OpenSpec := { _root_.Go.OpenSpec.ofChange s with cond := some uptoSmall }

/-- 'laws.FnPlaceCounts', WHERE WHAT IT READS IS OF BULK AT MOST 1048576: true; the input reads as it did. -/
def fnPlaceCountsUptoRow : OpenClaim := { program := "ytlnbpepeofceaaa", sum := "bef2a1729d80f3c68436ceb464c3e45cbe01a597910203d71e3f71a43c4d7a6b", func := "loop.example/lanekernel/laws.FnPlaceCounts", spec := "fnPlaceCounts", unfollowed := true, recurses := true, apart := false, narrowed := true }
def FnPlaceCountsUptoSaid : Prop := fnPlaceCountsUptoRow.holds Try.pinned (OpenSpec.upto fnPlaceCountsSpec)

/-- 'laws.FnHotPlace', WHERE WHAT IT READS IS OF BULK AT MOST 1048576: true; the input reads as it did. -/
def fnHotPlaceUptoRow : OpenClaim := { program := "ytlnbpepeofceaaa", sum := "bef2a1729d80f3c68436ceb464c3e45cbe01a597910203d71e3f71a43c4d7a6b", func := "loop.example/lanekernel/laws.FnHotPlace", spec := "fnHotPlace", unfollowed := true, recurses := true, apart := false, narrowed := true }
def FnHotPlaceUptoSaid : Prop := fnHotPlaceUptoRow.holds Try.pinned (OpenSpec.upto fnHotPlaceSpec)

/-- 'laws.FnProfilePlaces', WHERE WHAT IT READS IS OF BULK AT MOST 1048576: true; the input reads as it did. -/
def fnProfilePlacesUptoRow : OpenClaim := { program := "ytlnbpepeofceaaa", sum := "bef2a1729d80f3c68436ceb464c3e45cbe01a597910203d71e3f71a43c4d7a6b", func := "loop.example/lanekernel/laws.FnProfilePlaces", spec := "fnProfilePlaces", unfollowed := true, recurses := true, apart := false, narrowed := true }
def FnProfilePlacesUptoSaid : Prop := fnProfilePlacesUptoRow.holds Try.pinned (OpenSpec.upto fnProfilePlacesSpec)

/-- 'laws.FnProfileOne', WHERE WHAT IT READS IS OF BULK AT MOST 1048576: true; the input reads as it did. -/
def fnProfileOneUptoRow : OpenClaim := { program := "ytlnbpepeofceaaa", sum := "bef2a1729d80f3c68436ceb464c3e45cbe01a597910203d71e3f71a43c4d7a6b", func := "loop.example/lanekernel/laws.FnProfileOne", spec := "fnProfileOne", unfollowed := true, recurses := true, apart := false, narrowed := true }
def FnProfileOneUptoSaid : Prop := fnProfileOneUptoRow.holds Try.pinned (OpenSpec.upto fnProfileOneSpec)

/-- 'laws.FnProfileOf', WHERE WHAT IT READS IS OF BULK AT MOST 1048576: true; the input reads as it did. -/
def fnProfileOfUptoRow : OpenClaim := { program := "ytlnbpepeofceaaa", sum := "bef2a1729d80f3c68436ceb464c3e45cbe01a597910203d71e3f71a43c4d7a6b", func := "loop.example/lanekernel/laws.FnProfileOf", spec := "fnProfileOf", unfollowed := true, recurses := true, apart := false, narrowed := true }
def FnProfileOfUptoSaid : Prop := fnProfileOfUptoRow.holds Try.pinned (OpenSpec.upto fnProfileOfSpec)

/-- 'laws.FnOccupancy', WHERE WHAT IT READS IS OF BULK AT MOST 1048576: true; the input reads as it did. -/
def fnOccupancyUptoRow : OpenClaim := { program := "ytlnbpepeofceaaa", sum := "bef2a1729d80f3c68436ceb464c3e45cbe01a597910203d71e3f71a43c4d7a6b", func := "loop.example/lanekernel/laws.FnOccupancy", spec := "fnOccupancy", unfollowed := true, recurses := true, apart := false, narrowed := true }
def FnOccupancyUptoSaid : Prop := fnOccupancyUptoRow.holds Try.pinned (OpenSpec.upto fnOccupancySpec)

/-- 'laws.FnOccupancyBranch', WHERE WHAT IT READS IS OF BULK AT MOST 1048576: true; the input reads as it did. -/
def fnOccupancyBranchUptoRow : OpenClaim := { program := "ytlnbpepeofceaaa", sum := "bef2a1729d80f3c68436ceb464c3e45cbe01a597910203d71e3f71a43c4d7a6b", func := "loop.example/lanekernel/laws.FnOccupancyBranch", spec := "fnOccupancyBranch", unfollowed := true, recurses := true, apart := false, narrowed := true }
def FnOccupancyBranchUptoSaid : Prop := fnOccupancyBranchUptoRow.holds Try.pinned (OpenSpec.upto fnOccupancyBranchSpec)

end Rows
end Go.Proofs.Ytlnbpepeofceaaa
