/-
  No cell of these rows narrows 'for every input' (looked for: loops, veiled, ifaces, maps, wideKeys, modest, calm, conditions, laid).
  DERIVED. THE GIVEN ROWS OF THIS SEAT. 5 by the template 'for every input the law returns true; each argument reads behind the call as it read before'; 0 by the template 'total and deterministic' (their statements: YtelbfeidpcojmaaTotals.lean).
  GIVEN WITH THE SEED: the statements are not yours to turn. If you find one false, say at which input.
  Laid BY PROGRAM, IN A SANDBOX (cutbox-rows.mjs): the forced cells as the released guide's own fill.sh prints them over the translation fbca1f741fafb125… (all of the seat's roots in one cut). By AI agents, Wed Nov 11 2026. No macro, syntax, notation, axiom, sorry.
-/
import Derived.Test.YtelbfeidpcojmaaChecked
import GoSem.Claim
import GoSem.ClaimJoined
import GoSem.ClaimMapViews
import Derived.JoinedTies
import Derived.KernelRfl
namespace Go.Proofs.Ytelbfeidpcojmaa
/- THE CELL 'sum', in the pinned program and in every row, IS THE sha256 OF THE DUMP (.gsa) THAT YtelbfeidpcojmaaProg.lean LOADS. Nothing in Lean hashes anything: it is a label: what it is worth is what the hold of that sum in a sandbox is worth. -/
noncomputable def Try.pinned : Pinned := { name := "ytelbfeidpcojmaa", sum := "fbca1f741fafb125c8b2534eba83a4205ed0dcf395f43b21324a0007545f8b4e", checked := Try.checked }
namespace Rows
def none {H : Type} : Left H := { results := [], args := [] }

/-- 'laws.FnExactRunGroups': WHATEVER THE INPUT: true; the input reads as it did. -/
def fnExactRunGroupsSpec : ChangeSpec := { name := "fnExactRunGroups", fn := fun _ => fun
  | [d1, d2, d3, d4, d5] => { results := [.lit (.bool true)], args := [d1, d2, d3, d4, d5] }
  | _ => none }
def fnExactRunGroupsRow : OpenClaim := { program := "ytelbfeidpcojmaa", sum := "fbca1f741fafb125c8b2534eba83a4205ed0dcf395f43b21324a0007545f8b4e", func := "loop.example/lanekernel/laws.FnExactRunGroups", spec := "fnExactRunGroups", unfollowed := true, recurses := true, apart := false }
def FnExactRunGroupsSaid : Prop := fnExactRunGroupsRow.holds Try.pinned (OpenSpec.ofChange fnExactRunGroupsSpec)

/-- ITS FALSE NEIGHBOUR: 'it returns false'. Refute it at one input. -/
def fnExactRunGroupsWrong : ChangeSpec := { name := "fnExactRunGroups", fn := fun _ => fun
  | [d1, d2, d3, d4, d5] => { results := [.lit (.bool false)], args := [d1, d2, d3, d4, d5] }
  | _ => none }
def FnExactRunGroupsWrongFalsely : Prop := fnExactRunGroupsRow.holds Try.pinned (OpenSpec.ofChange fnExactRunGroupsWrong)

/-- 'laws.FnExactSameMemory': WHATEVER THE INPUT: true; the input reads as it did. -/
def fnExactSameMemorySpec : ChangeSpec := { name := "fnExactSameMemory", fn := fun _ => fun
  | [d1, d2, d3, d4] => { results := [.lit (.bool true)], args := [d1, d2, d3, d4] }
  | _ => none }
def fnExactSameMemoryRow : OpenClaim := { program := "ytelbfeidpcojmaa", sum := "fbca1f741fafb125c8b2534eba83a4205ed0dcf395f43b21324a0007545f8b4e", func := "loop.example/lanekernel/laws.FnExactSameMemory", spec := "fnExactSameMemory", unfollowed := true, recurses := true, apart := false }
def FnExactSameMemorySaid : Prop := fnExactSameMemoryRow.holds Try.pinned (OpenSpec.ofChange fnExactSameMemorySpec)

/-- ITS FALSE NEIGHBOUR: 'it returns false'. Refute it at one input. -/
def fnExactSameMemoryWrong : ChangeSpec := { name := "fnExactSameMemory", fn := fun _ => fun
  | [d1, d2, d3, d4] => { results := [.lit (.bool false)], args := [d1, d2, d3, d4] }
  | _ => none }
def FnExactSameMemoryWrongFalsely : Prop := fnExactSameMemoryRow.holds Try.pinned (OpenSpec.ofChange fnExactSameMemoryWrong)

/-- 'laws.FnGroupsAll': WHATEVER THE INPUT: true; the input reads as it did. -/
def fnGroupsAllSpec : ChangeSpec := { name := "fnGroupsAll", fn := fun _ => fun
  | [d] => { results := [.lit (.bool true)], args := [d] }
  | _ => none }
def fnGroupsAllRow : OpenClaim := { program := "ytelbfeidpcojmaa", sum := "fbca1f741fafb125c8b2534eba83a4205ed0dcf395f43b21324a0007545f8b4e", func := "loop.example/lanekernel/laws.FnGroupsAll", spec := "fnGroupsAll", unfollowed := true, recurses := true, apart := false }
def FnGroupsAllSaid : Prop := fnGroupsAllRow.holds Try.pinned (OpenSpec.ofChange fnGroupsAllSpec)

/-- ITS FALSE NEIGHBOUR: 'it returns false'. Refute it at one input. -/
def fnGroupsAllWrong : ChangeSpec := { name := "fnGroupsAll", fn := fun _ => fun
  | [d] => { results := [.lit (.bool false)], args := [d] }
  | _ => none }
def FnGroupsAllWrongFalsely : Prop := fnGroupsAllRow.holds Try.pinned (OpenSpec.ofChange fnGroupsAllWrong)

/-- 'laws.FnGroupsOne': WHATEVER THE INPUT: true; the input reads as it did. -/
def fnGroupsOneSpec : ChangeSpec := { name := "fnGroupsOne", fn := fun _ => fun
  | [d] => { results := [.lit (.bool true)], args := [d] }
  | _ => none }
def fnGroupsOneRow : OpenClaim := { program := "ytelbfeidpcojmaa", sum := "fbca1f741fafb125c8b2534eba83a4205ed0dcf395f43b21324a0007545f8b4e", func := "loop.example/lanekernel/laws.FnGroupsOne", spec := "fnGroupsOne", unfollowed := true, recurses := true, apart := false }
def FnGroupsOneSaid : Prop := fnGroupsOneRow.holds Try.pinned (OpenSpec.ofChange fnGroupsOneSpec)

/-- ITS FALSE NEIGHBOUR: 'it returns false'. Refute it at one input. -/
def fnGroupsOneWrong : ChangeSpec := { name := "fnGroupsOne", fn := fun _ => fun
  | [d] => { results := [.lit (.bool false)], args := [d] }
  | _ => none }
def FnGroupsOneWrongFalsely : Prop := fnGroupsOneRow.holds Try.pinned (OpenSpec.ofChange fnGroupsOneWrong)

/-- 'laws.FnRunGroups': WHATEVER THE INPUT: true; the input reads as it did. -/
def fnRunGroupsSpec : ChangeSpec := { name := "fnRunGroups", fn := fun _ => fun
  | [d] => { results := [.lit (.bool true)], args := [d] }
  | _ => none }
def fnRunGroupsRow : OpenClaim := { program := "ytelbfeidpcojmaa", sum := "fbca1f741fafb125c8b2534eba83a4205ed0dcf395f43b21324a0007545f8b4e", func := "loop.example/lanekernel/laws.FnRunGroups", spec := "fnRunGroups", unfollowed := true, recurses := true, apart := false }
def FnRunGroupsSaid : Prop := fnRunGroupsRow.holds Try.pinned (OpenSpec.ofChange fnRunGroupsSpec)

/-- ITS FALSE NEIGHBOUR: 'it returns false'. Refute it at one input. -/
def fnRunGroupsWrong : ChangeSpec := { name := "fnRunGroups", fn := fun _ => fun
  | [d] => { results := [.lit (.bool false)], args := [d] }
  | _ => none }
def FnRunGroupsWrongFalsely : Prop := fnRunGroupsRow.holds Try.pinned (OpenSpec.ofChange fnRunGroupsWrong)

/- THE SECOND FORM. 'bulk': how many values and letters a reading holds, each counted each time it is reached (what is shared counts as often as it is met; a slice's spare places count too). A statement '..UptoSaid' is the law's where the arguments, and the package variables that the reading takes, are together of bulk at most 1048576: NARROWER than '..Said'. Prove '..Said' where nothing that the law and all that it calls make is longer than what came in: it says more and counts as full. Else prove '..UptoSaid'. A law counts once. -/
mutual
def uptoBulk {H : Type} : DataW H → Nat
  | .lit (.string bytes) => bytes.length + 1
  | .lit _ => 1
  | .nil => 1
  | .ptr d => uptoBulk d + 1
  | .slice elems spare => uptoBulkAll elems + uptoBulkAll spare + 1
  | .agg parts => uptoBulkAll parts + 1
  | .iface _ d => uptoBulk d + 1
  | .map entries => uptoBulkEntries entries + 1
  | .held _ => 1
def uptoBulkAll {H : Type} : List (DataW H) → Nat
  | [] => 0
  | d :: r => uptoBulk d + uptoBulkAll r
def uptoBulkEntries {H : Type} : List (Lit × DataW H) → Nat
  | [] => 0
  | x :: r => uptoBulkEntry x + uptoBulkEntries r
def uptoBulkEntry {H : Type} : Lit × DataW H → Nat
  | (.string bytes, d) => bytes.length + uptoBulk d + 1
  | (_, d) => uptoBulk d + 1
 end
def uptoSmall : (H : Type) → List (DataW H) → Bool := fun _ ds => decide (uptoBulkAll ds ≤ 1048576)
def OpenSpec.upto (s : _root_.Go.ChangeSpec) : _root_.Go.OpenSpec := { _root_.Go.OpenSpec.ofChange s with cond := some uptoSmall }

/-- 'laws.FnExactRunGroups', WHERE WHAT IT READS IS OF BULK AT MOST 1048576: true; the input reads as it did. -/
def fnExactRunGroupsUptoRow : OpenClaim := { program := "ytelbfeidpcojmaa", sum := "fbca1f741fafb125c8b2534eba83a4205ed0dcf395f43b21324a0007545f8b4e", func := "loop.example/lanekernel/laws.FnExactRunGroups", spec := "fnExactRunGroups", unfollowed := true, recurses := true, apart := false, narrowed := true }
def FnExactRunGroupsUptoSaid : Prop := fnExactRunGroupsUptoRow.holds Try.pinned (OpenSpec.upto fnExactRunGroupsSpec)

/-- 'laws.FnExactSameMemory', WHERE WHAT IT READS IS OF BULK AT MOST 1048576: true; the input reads as it did. -/
def fnExactSameMemoryUptoRow : OpenClaim := { program := "ytelbfeidpcojmaa", sum := "fbca1f741fafb125c8b2534eba83a4205ed0dcf395f43b21324a0007545f8b4e", func := "loop.example/lanekernel/laws.FnExactSameMemory", spec := "fnExactSameMemory", unfollowed := true, recurses := true, apart := false, narrowed := true }
def FnExactSameMemoryUptoSaid : Prop := fnExactSameMemoryUptoRow.holds Try.pinned (OpenSpec.upto fnExactSameMemorySpec)

/-- 'laws.FnGroupsAll', WHERE WHAT IT READS IS OF BULK AT MOST 1048576: true; the input reads as it did. -/
def fnGroupsAllUptoRow : OpenClaim := { program := "ytelbfeidpcojmaa", sum := "fbca1f741fafb125c8b2534eba83a4205ed0dcf395f43b21324a0007545f8b4e", func := "loop.example/lanekernel/laws.FnGroupsAll", spec := "fnGroupsAll", unfollowed := true, recurses := true, apart := false, narrowed := true }
def FnGroupsAllUptoSaid : Prop := fnGroupsAllUptoRow.holds Try.pinned (OpenSpec.upto fnGroupsAllSpec)

/-- 'laws.FnGroupsOne', WHERE WHAT IT READS IS OF BULK AT MOST 1048576: true; the input reads as it did. -/
def fnGroupsOneUptoRow : OpenClaim := { program := "ytelbfeidpcojmaa", sum := "fbca1f741fafb125c8b2534eba83a4205ed0dcf395f43b21324a0007545f8b4e", func := "loop.example/lanekernel/laws.FnGroupsOne", spec := "fnGroupsOne", unfollowed := true, recurses := true, apart := false, narrowed := true }
def FnGroupsOneUptoSaid : Prop := fnGroupsOneUptoRow.holds Try.pinned (OpenSpec.upto fnGroupsOneSpec)

/-- 'laws.FnRunGroups', WHERE WHAT IT READS IS OF BULK AT MOST 1048576: true; the input reads as it did. -/
def fnRunGroupsUptoRow : OpenClaim := { program := "ytelbfeidpcojmaa", sum := "fbca1f741fafb125c8b2534eba83a4205ed0dcf395f43b21324a0007545f8b4e", func := "loop.example/lanekernel/laws.FnRunGroups", spec := "fnRunGroups", unfollowed := true, recurses := true, apart := false, narrowed := true }
def FnRunGroupsUptoSaid : Prop := fnRunGroupsUptoRow.holds Try.pinned (OpenSpec.upto fnRunGroupsSpec)

end Rows
end Go.Proofs.Ytelbfeidpcojmaa
