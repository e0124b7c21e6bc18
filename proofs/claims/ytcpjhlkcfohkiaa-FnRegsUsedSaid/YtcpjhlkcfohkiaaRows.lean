/-
  No cell of these rows narrows 'for every input' (looked for: loops, veiled, ifaces, maps, wideKeys, modest, calm, conditions, laid).
  DERIVED. THE GIVEN ROWS OF THIS SEAT. 12 by the template 'for every input the law returns true; each argument reads behind the call as it read before'; 0 by the template 'total and deterministic' (their statements: YtcpjhlkcfohkiaaTotals.lean).
  GIVEN WITH THE SEED: the statements are not yours to turn. If you find one false, say at which input.
  Laid BY PROGRAM, IN A SANDBOX (cutbox-rows.mjs): the forced cells as the released guide's own fill.sh prints them over the translation d3970c64b6f59b6c… (all of the seat's roots in one cut). By AI agents, Wed Nov 11 2026. No macro, syntax, notation, axiom, sorry.
-/
import Derived.Test.YtcpjhlkcfohkiaaChecked
import GoSem.Claim
import GoSem.ClaimJoined
import GoSem.ClaimMapViews
import Derived.JoinedTies
import Derived.KernelRfl
namespace Go.Proofs.Ytcpjhlkcfohkiaa
/- THE CELL 'sum', in the pinned program and in every row, IS THE sha256 OF THE DUMP (.gsa) THAT YtcpjhlkcfohkiaaProg.lean LOADS. Nothing in Lean hashes anything: it is a label: what it is worth is what the hold of that sum in a sandbox is worth. -/
noncomputable def Try.pinned : Pinned := { name := "ytcpjhlkcfohkiaa", sum := "d3970c64b6f59b6c8cb4e11d155b5933f352e1c56665fd5a69b97b55435f616a", checked := Try.checked }
namespace Rows
def none {H : Type} : Left H := { results := [], args := [] }

/-- 'laws.FnExactOptimize': WHATEVER THE INPUT: true; the input reads as it did. -/
def fnExactOptimizeSpec : ChangeSpec := { name := "fnExactOptimize", fn := fun _ => fun
  | [d] => { results := [.lit (.bool true)], args := [d] }
  | _ => none }
def fnExactOptimizeRow : OpenClaim := { program := "ytcpjhlkcfohkiaa", sum := "d3970c64b6f59b6c8cb4e11d155b5933f352e1c56665fd5a69b97b55435f616a", func := "loop.example/lanekernel/laws.FnExactOptimize", spec := "fnExactOptimize", apart := false }
def FnExactOptimizeSaid : Prop := fnExactOptimizeRow.holds Try.pinned (OpenSpec.ofChange fnExactOptimizeSpec)

/-- ITS FALSE NEIGHBOUR: 'it returns false'. Refute it at one input. -/
def fnExactOptimizeWrong : ChangeSpec := { name := "fnExactOptimize", fn := fun _ => fun
  | [d] => { results := [.lit (.bool false)], args := [d] }
  | _ => none }
def FnExactOptimizeWrongFalsely : Prop := fnExactOptimizeRow.holds Try.pinned (OpenSpec.ofChange fnExactOptimizeWrong)

/-- 'laws.FnGroupsMany': WHATEVER THE INPUT: true; the input reads as it did. -/
def fnGroupsManySpec : ChangeSpec := { name := "fnGroupsMany", fn := fun _ => fun
  | [d] => { results := [.lit (.bool true)], args := [d] }
  | _ => none }
def fnGroupsManyRow : OpenClaim := { program := "ytcpjhlkcfohkiaa", sum := "d3970c64b6f59b6c8cb4e11d155b5933f352e1c56665fd5a69b97b55435f616a", func := "loop.example/lanekernel/laws.FnGroupsMany", spec := "fnGroupsMany", apart := false }
def FnGroupsManySaid : Prop := fnGroupsManyRow.holds Try.pinned (OpenSpec.ofChange fnGroupsManySpec)

/-- ITS FALSE NEIGHBOUR: 'it returns false'. Refute it at one input. -/
def fnGroupsManyWrong : ChangeSpec := { name := "fnGroupsMany", fn := fun _ => fun
  | [d] => { results := [.lit (.bool false)], args := [d] }
  | _ => none }
def FnGroupsManyWrongFalsely : Prop := fnGroupsManyRow.holds Try.pinned (OpenSpec.ofChange fnGroupsManyWrong)

/-- 'laws.FnGroupMask': WHATEVER THE INPUT: true; the input reads as it did. -/
def fnGroupMaskSpec : ChangeSpec := { name := "fnGroupMask", fn := fun _ => fun
  | [d] => { results := [.lit (.bool true)], args := [d] }
  | _ => none }
def fnGroupMaskRow : OpenClaim := { program := "ytcpjhlkcfohkiaa", sum := "d3970c64b6f59b6c8cb4e11d155b5933f352e1c56665fd5a69b97b55435f616a", func := "loop.example/lanekernel/laws.FnGroupMask", spec := "fnGroupMask", apart := false }
def FnGroupMaskSaid : Prop := fnGroupMaskRow.holds Try.pinned (OpenSpec.ofChange fnGroupMaskSpec)

/-- ITS FALSE NEIGHBOUR: 'it returns false'. Refute it at one input. -/
def fnGroupMaskWrong : ChangeSpec := { name := "fnGroupMask", fn := fun _ => fun
  | [d] => { results := [.lit (.bool false)], args := [d] }
  | _ => none }
def FnGroupMaskWrongFalsely : Prop := fnGroupMaskRow.holds Try.pinned (OpenSpec.ofChange fnGroupMaskWrong)

/-- 'laws.FnCanPick': WHATEVER THE INPUT: true; the input reads as it did. -/
def fnCanPickSpec : ChangeSpec := { name := "fnCanPick", fn := fun _ => fun
  | [d] => { results := [.lit (.bool true)], args := [d] }
  | _ => none }
def fnCanPickRow : OpenClaim := { program := "ytcpjhlkcfohkiaa", sum := "d3970c64b6f59b6c8cb4e11d155b5933f352e1c56665fd5a69b97b55435f616a", func := "loop.example/lanekernel/laws.FnCanPick", spec := "fnCanPick", recurses := true, apart := false }
def FnCanPickSaid : Prop := fnCanPickRow.holds Try.pinned (OpenSpec.ofChange fnCanPickSpec)

/-- ITS FALSE NEIGHBOUR: 'it returns false'. Refute it at one input. -/
def fnCanPickWrong : ChangeSpec := { name := "fnCanPick", fn := fun _ => fun
  | [d] => { results := [.lit (.bool false)], args := [d] }
  | _ => none }
def FnCanPickWrongFalsely : Prop := fnCanPickRow.holds Try.pinned (OpenSpec.ofChange fnCanPickWrong)

/-- 'laws.FnPickPlaces': WHATEVER THE INPUT: true; the input reads as it did. -/
def fnPickPlacesSpec : ChangeSpec := { name := "fnPickPlaces", fn := fun _ => fun
  | [d] => { results := [.lit (.bool true)], args := [d] }
  | _ => none }
def fnPickPlacesRow : OpenClaim := { program := "ytcpjhlkcfohkiaa", sum := "d3970c64b6f59b6c8cb4e11d155b5933f352e1c56665fd5a69b97b55435f616a", func := "loop.example/lanekernel/laws.FnPickPlaces", spec := "fnPickPlaces", recurses := true, apart := false }
def FnPickPlacesSaid : Prop := fnPickPlacesRow.holds Try.pinned (OpenSpec.ofChange fnPickPlacesSpec)

/-- ITS FALSE NEIGHBOUR: 'it returns false'. Refute it at one input. -/
def fnPickPlacesWrong : ChangeSpec := { name := "fnPickPlaces", fn := fun _ => fun
  | [d] => { results := [.lit (.bool false)], args := [d] }
  | _ => none }
def FnPickPlacesWrongFalsely : Prop := fnPickPlacesRow.holds Try.pinned (OpenSpec.ofChange fnPickPlacesWrong)

/-- 'laws.FnSwapRegs': WHATEVER THE INPUT: true; the input reads as it did. -/
def fnSwapRegsSpec : ChangeSpec := { name := "fnSwapRegs", fn := fun _ => fun
  | [d] => { results := [.lit (.bool true)], args := [d] }
  | _ => none }
def fnSwapRegsRow : OpenClaim := { program := "ytcpjhlkcfohkiaa", sum := "d3970c64b6f59b6c8cb4e11d155b5933f352e1c56665fd5a69b97b55435f616a", func := "loop.example/lanekernel/laws.FnSwapRegs", spec := "fnSwapRegs", recurses := true, apart := false }
def FnSwapRegsSaid : Prop := fnSwapRegsRow.holds Try.pinned (OpenSpec.ofChange fnSwapRegsSpec)

/-- ITS FALSE NEIGHBOUR: 'it returns false'. Refute it at one input. -/
def fnSwapRegsWrong : ChangeSpec := { name := "fnSwapRegs", fn := fun _ => fun
  | [d] => { results := [.lit (.bool false)], args := [d] }
  | _ => none }
def FnSwapRegsWrongFalsely : Prop := fnSwapRegsRow.holds Try.pinned (OpenSpec.ofChange fnSwapRegsWrong)

/-- 'laws.FnPeelPlaces': WHATEVER THE INPUT: true; the input reads as it did. -/
def fnPeelPlacesSpec : ChangeSpec := { name := "fnPeelPlaces", fn := fun _ => fun
  | [d] => { results := [.lit (.bool true)], args := [d] }
  | _ => none }
def fnPeelPlacesRow : OpenClaim := { program := "ytcpjhlkcfohkiaa", sum := "d3970c64b6f59b6c8cb4e11d155b5933f352e1c56665fd5a69b97b55435f616a", func := "loop.example/lanekernel/laws.FnPeelPlaces", spec := "fnPeelPlaces", recurses := true, apart := false }
def FnPeelPlacesSaid : Prop := fnPeelPlacesRow.holds Try.pinned (OpenSpec.ofChange fnPeelPlacesSpec)

/-- ITS FALSE NEIGHBOUR: 'it returns false'. Refute it at one input. -/
def fnPeelPlacesWrong : ChangeSpec := { name := "fnPeelPlaces", fn := fun _ => fun
  | [d] => { results := [.lit (.bool false)], args := [d] }
  | _ => none }
def FnPeelPlacesWrongFalsely : Prop := fnPeelPlacesRow.holds Try.pinned (OpenSpec.ofChange fnPeelPlacesWrong)

/-- 'laws.FnUsePicks': WHATEVER THE INPUT: true; the input reads as it did. -/
def fnUsePicksSpec : ChangeSpec := { name := "fnUsePicks", fn := fun _ => fun
  | [d1, d2] => { results := [.lit (.bool true)], args := [d1, d2] }
  | _ => none }
def fnUsePicksRow : OpenClaim := { program := "ytcpjhlkcfohkiaa", sum := "d3970c64b6f59b6c8cb4e11d155b5933f352e1c56665fd5a69b97b55435f616a", func := "loop.example/lanekernel/laws.FnUsePicks", spec := "fnUsePicks", unfollowed := true, recurses := true, apart := false }
def FnUsePicksSaid : Prop := fnUsePicksRow.holds Try.pinned (OpenSpec.ofChange fnUsePicksSpec)

/-- ITS FALSE NEIGHBOUR: 'it returns false'. Refute it at one input. -/
def fnUsePicksWrong : ChangeSpec := { name := "fnUsePicks", fn := fun _ => fun
  | [d1, d2] => { results := [.lit (.bool false)], args := [d1, d2] }
  | _ => none }
def FnUsePicksWrongFalsely : Prop := fnUsePicksRow.holds Try.pinned (OpenSpec.ofChange fnUsePicksWrong)

/-- 'laws.FnRenameRegs': WHATEVER THE INPUT: true; the input reads as it did. -/
def fnRenameRegsSpec : ChangeSpec := { name := "fnRenameRegs", fn := fun _ => fun
  | [d] => { results := [.lit (.bool true)], args := [d] }
  | _ => none }
def fnRenameRegsRow : OpenClaim := { program := "ytcpjhlkcfohkiaa", sum := "d3970c64b6f59b6c8cb4e11d155b5933f352e1c56665fd5a69b97b55435f616a", func := "loop.example/lanekernel/laws.FnRenameRegs", spec := "fnRenameRegs", unfollowed := true, recurses := true, apart := false }
def FnRenameRegsSaid : Prop := fnRenameRegsRow.holds Try.pinned (OpenSpec.ofChange fnRenameRegsSpec)

/-- ITS FALSE NEIGHBOUR: 'it returns false'. Refute it at one input. -/
def fnRenameRegsWrong : ChangeSpec := { name := "fnRenameRegs", fn := fun _ => fun
  | [d] => { results := [.lit (.bool false)], args := [d] }
  | _ => none }
def FnRenameRegsWrongFalsely : Prop := fnRenameRegsRow.holds Try.pinned (OpenSpec.ofChange fnRenameRegsWrong)

/-- 'laws.FnPeelLoop': WHATEVER THE INPUT: true; the input reads as it did. -/
def fnPeelLoopSpec : ChangeSpec := { name := "fnPeelLoop", fn := fun _ => fun
  | [d] => { results := [.lit (.bool true)], args := [d] }
  | _ => none }
def fnPeelLoopRow : OpenClaim := { program := "ytcpjhlkcfohkiaa", sum := "d3970c64b6f59b6c8cb4e11d155b5933f352e1c56665fd5a69b97b55435f616a", func := "loop.example/lanekernel/laws.FnPeelLoop", spec := "fnPeelLoop", unfollowed := true, recurses := true, apart := false }
def FnPeelLoopSaid : Prop := fnPeelLoopRow.holds Try.pinned (OpenSpec.ofChange fnPeelLoopSpec)

/-- ITS FALSE NEIGHBOUR: 'it returns false'. Refute it at one input. -/
def fnPeelLoopWrong : ChangeSpec := { name := "fnPeelLoop", fn := fun _ => fun
  | [d] => { results := [.lit (.bool false)], args := [d] }
  | _ => none }
def FnPeelLoopWrongFalsely : Prop := fnPeelLoopRow.holds Try.pinned (OpenSpec.ofChange fnPeelLoopWrong)

/-- 'laws.FnPeelSome': WHATEVER THE INPUT: true; the input reads as it did. -/
def fnPeelSomeSpec : ChangeSpec := { name := "fnPeelSome", fn := fun _ => fun
  | [d] => { results := [.lit (.bool true)], args := [d] }
  | _ => none }
def fnPeelSomeRow : OpenClaim := { program := "ytcpjhlkcfohkiaa", sum := "d3970c64b6f59b6c8cb4e11d155b5933f352e1c56665fd5a69b97b55435f616a", func := "loop.example/lanekernel/laws.FnPeelSome", spec := "fnPeelSome", unfollowed := true, recurses := true, apart := false }
def FnPeelSomeSaid : Prop := fnPeelSomeRow.holds Try.pinned (OpenSpec.ofChange fnPeelSomeSpec)

/-- ITS FALSE NEIGHBOUR: 'it returns false'. Refute it at one input. -/
def fnPeelSomeWrong : ChangeSpec := { name := "fnPeelSome", fn := fun _ => fun
  | [d] => { results := [.lit (.bool false)], args := [d] }
  | _ => none }
def FnPeelSomeWrongFalsely : Prop := fnPeelSomeRow.holds Try.pinned (OpenSpec.ofChange fnPeelSomeWrong)

/-- 'laws.FnRegsUsed': WHATEVER THE INPUT: true; the input reads as it did. -/
def fnRegsUsedSpec : ChangeSpec := { name := "fnRegsUsed", fn := fun _ => fun
  | [d] => { results := [.lit (.bool true)], args := [d] }
  | _ => none }
def fnRegsUsedRow : OpenClaim := { program := "ytcpjhlkcfohkiaa", sum := "d3970c64b6f59b6c8cb4e11d155b5933f352e1c56665fd5a69b97b55435f616a", func := "loop.example/lanekernel/laws.FnRegsUsed", spec := "fnRegsUsed", unfollowed := true, recurses := true, apart := false }
def FnRegsUsedSaid : Prop := fnRegsUsedRow.holds Try.pinned (OpenSpec.ofChange fnRegsUsedSpec)

/-- ITS FALSE NEIGHBOUR: 'it returns false'. Refute it at one input. -/
def fnRegsUsedWrong : ChangeSpec := { name := "fnRegsUsed", fn := fun _ => fun
  | [d] => { results := [.lit (.bool false)], args := [d] }
  | _ => none }
def FnRegsUsedWrongFalsely : Prop := fnRegsUsedRow.holds Try.pinned (OpenSpec.ofChange fnRegsUsedWrong)

/- THE SECOND FORM. 'bulk': how many values and letters a reading holds, each counted each time it is reached (what is shared counts as often as it is met; a slice's spare places count too). A statement '..UptoSaid' is the law's where the arguments, and the package variables that the reading takes, are together of bulk at most 1048576: NARROWER than '..Said'. Prove '..Said' where nothing that the law and all that it calls make is longer than what came in: it says more and counts as full. Else prove '..UptoSaid'. A law counts once. -/
mutual
def uptoBulk {H : Type} : DataW H → Nat
  | .lit (.string bytes) => bytes.length + 1
  | .lit _ => 1
  | .nil => 1
  | .ptr d => uptoBulk d + 1
  | .slice elems spare => uptoBulkAll elems + uptoBulkAll spare + 1
  | .agg parts => uptoBulkAll parts + 1
  | .iface _ d => uptoBulk d + 1
  | .map entries => uptoBulkEntries entries + 1
  | .held _ => 1
def uptoBulkAll {H : Type} : List (DataW H) → Nat
  | [] => 0
  | d :: r => uptoBulk d + uptoBulkAll r
def uptoBulkEntries {H : Type} : List (Lit × DataW H) → Nat
  | [] => 0
  | x :: r => uptoBulkEntry x + uptoBulkEntries r
def uptoBulkEntry {H : Type} : Lit × DataW H → Nat
  | (.string bytes, d) => bytes.length + uptoBulk d + 1
  | (_, d) => uptoBulk d + 1
 end
def uptoSmall : (H : Type) → List (DataW H) → Bool := fun _ ds => decide (uptoBulkAll ds ≤ 1048576)
def OpenSpec.upto (s : _root_.Go.ChangeSpec) : _root_.Go.OpenSpec := { _root_.Go.OpenSpec.ofChange s with cond := some uptoSmall }

/-- 'laws.FnExactOptimize', WHERE WHAT IT READS IS OF BULK AT MOST 1048576: true; the input reads as it did. -/
def fnExactOptimizeUptoRow : OpenClaim := { program := "ytcpjhlkcfohkiaa", sum := "d3970c64b6f59b6c8cb4e11d155b5933f352e1c56665fd5a69b97b55435f616a", func := "loop.example/lanekernel/laws.FnExactOptimize", spec := "fnExactOptimize", apart := false, narrowed := true }
def FnExactOptimizeUptoSaid : Prop := fnExactOptimizeUptoRow.holds Try.pinned (OpenSpec.upto fnExactOptimizeSpec)

/-- 'laws.FnGroupsMany', WHERE WHAT IT READS IS OF BULK AT MOST 1048576: true; the input reads as it did. -/
def fnGroupsManyUptoRow : OpenClaim := { program := "ytcpjhlkcfohkiaa", sum := "d3970c64b6f59b6c8cb4e11d155b5933f352e1c56665fd5a69b97b55435f616a", func := "loop.example/lanekernel/laws.FnGroupsMany", spec := "fnGroupsMany", apart := false, narrowed := true }
def FnGroupsManyUptoSaid : Prop := fnGroupsManyUptoRow.holds Try.pinned (OpenSpec.upto fnGroupsManySpec)

/-- 'laws.FnGroupMask', WHERE WHAT IT READS IS OF BULK AT MOST 1048576: true; the input reads as it did. -/
def fnGroupMaskUptoRow : OpenClaim := { program := "ytcpjhlkcfohkiaa", sum := "d3970c64b6f59b6c8cb4e11d155b5933f352e1c56665fd5a69b97b55435f616a", func := "loop.example/lanekernel/laws.FnGroupMask", spec := "fnGroupMask", apart := false, narrowed := true }
def FnGroupMaskUptoSaid : Prop := fnGroupMaskUptoRow.holds Try.pinned (OpenSpec.upto fnGroupMaskSpec)

/-- 'laws.FnCanPick', WHERE WHAT IT READS IS OF BULK AT MOST 1048576: true; the input reads as it did. -/
def fnCanPickUptoRow : OpenClaim := { program := "ytcpjhlkcfohkiaa", sum := "d3970c64b6f59b6c8cb4e11d155b5933f352e1c56665fd5a69b97b55435f616a", func := "loop.example/lanekernel/laws.FnCanPick", spec := "fnCanPick", recurses := true, apart := false, narrowed := true }
def FnCanPickUptoSaid : Prop := fnCanPickUptoRow.holds Try.pinned (OpenSpec.upto fnCanPickSpec)

/-- 'laws.FnPickPlaces', WHERE WHAT IT READS IS OF BULK AT MOST 1048576: true; the input reads as it did. -/
def fnPickPlacesUptoRow : OpenClaim := { program := "ytcpjhlkcfohkiaa", sum := "d3970c64b6f59b6c8cb4e11d155b5933f352e1c56665fd5a69b97b55435f616a", func := "loop.example/lanekernel/laws.FnPickPlaces", spec := "fnPickPlaces", recurses := true, apart := false, narrowed := true }
def FnPickPlacesUptoSaid : Prop := fnPickPlacesUptoRow.holds Try.pinned (OpenSpec.upto fnPickPlacesSpec)

/-- 'laws.FnSwapRegs', WHERE WHAT IT READS IS OF BULK AT MOST 1048576: true; the input reads as it did. -/
def fnSwapRegsUptoRow : OpenClaim := { program := "ytcpjhlkcfohkiaa", sum := "d3970c64b6f59b6c8cb4e11d155b5933f352e1c56665fd5a69b97b55435f616a", func := "loop.example/lanekernel/laws.FnSwapRegs", spec := "fnSwapRegs", recurses := true, apart := false, narrowed := true }
def FnSwapRegsUptoSaid : Prop := fnSwapRegsUptoRow.holds Try.pinned (OpenSpec.upto fnSwapRegsSpec)

/-- 'laws.FnPeelPlaces', WHERE WHAT IT READS IS OF BULK AT MOST 1048576: true; the input reads as it did. -/
def fnPeelPlacesUptoRow : OpenClaim := { program := "ytcpjhlkcfohkiaa", sum := "d3970c64b6f59b6c8cb4e11d155b5933f352e1c56665fd5a69b97b55435f616a", func := "loop.example/lanekernel/laws.FnPeelPlaces", spec := "fnPeelPlaces", recurses := true, apart := false, narrowed := true }
def FnPeelPlacesUptoSaid : Prop := fnPeelPlacesUptoRow.holds Try.pinned (OpenSpec.upto fnPeelPlacesSpec)

/-- 'laws.FnUsePicks', WHERE WHAT IT READS IS OF BULK AT MOST 1048576: true; the input reads as it did. -/
def fnUsePicksUptoRow : OpenClaim := { program := "ytcpjhlkcfohkiaa", sum := "d3970c64b6f59b6c8cb4e11d155b5933f352e1c56665fd5a69b97b55435f616a", func := "loop.example/lanekernel/laws.FnUsePicks", spec := "fnUsePicks", unfollowed := true, recurses := true, apart := false, narrowed := true }
def FnUsePicksUptoSaid : Prop := fnUsePicksUptoRow.holds Try.pinned (OpenSpec.upto fnUsePicksSpec)

/-- 'laws.FnRenameRegs', WHERE WHAT IT READS IS OF BULK AT MOST 1048576: true; the input reads as it did. -/
def fnRenameRegsUptoRow : OpenClaim := { program := "ytcpjhlkcfohkiaa", sum := "d3970c64b6f59b6c8cb4e11d155b5933f352e1c56665fd5a69b97b55435f616a", func := "loop.example/lanekernel/laws.FnRenameRegs", spec := "fnRenameRegs", unfollowed := true, recurses := true, apart := false, narrowed := true }
def FnRenameRegsUptoSaid : Prop := fnRenameRegsUptoRow.holds Try.pinned (OpenSpec.upto fnRenameRegsSpec)

/-- 'laws.FnPeelLoop', WHERE WHAT IT READS IS OF BULK AT MOST 1048576: true; the input reads as it did. -/
def fnPeelLoopUptoRow : OpenClaim := { program := "ytcpjhlkcfohkiaa", sum := "d3970c64b6f59b6c8cb4e11d155b5933f352e1c56665fd5a69b97b55435f616a", func := "loop.example/lanekernel/laws.FnPeelLoop", spec := "fnPeelLoop", unfollowed := true, recurses := true, apart := false, narrowed := true }
def FnPeelLoopUptoSaid : Prop := fnPeelLoopUptoRow.holds Try.pinned (OpenSpec.upto fnPeelLoopSpec)

/-- 'laws.FnPeelSome', WHERE WHAT IT READS IS OF BULK AT MOST 1048576: true; the input reads as it did. -/
def fnPeelSomeUptoRow : OpenClaim := { program := "ytcpjhlkcfohkiaa", sum := "d3970c64b6f59b6c8cb4e11d155b5933f352e1c56665fd5a69b97b55435f616a", func := "loop.example/lanekernel/laws.FnPeelSome", spec := "fnPeelSome", unfollowed := true, recurses := true, apart := false, narrowed := true }
def FnPeelSomeUptoSaid : Prop := fnPeelSomeUptoRow.holds Try.pinned (OpenSpec.upto fnPeelSomeSpec)

/-- 'laws.FnRegsUsed', WHERE WHAT IT READS IS OF BULK AT MOST 1048576: true; the input reads as it did. -/
def fnRegsUsedUptoRow : OpenClaim := { program := "ytcpjhlkcfohkiaa", sum := "d3970c64b6f59b6c8cb4e11d155b5933f352e1c56665fd5a69b97b55435f616a", func := "loop.example/lanekernel/laws.FnRegsUsed", spec := "fnRegsUsed", unfollowed := true, recurses := true, apart := false, narrowed := true }
def FnRegsUsedUptoSaid : Prop := fnRegsUsedUptoRow.holds Try.pinned (OpenSpec.upto fnRegsUsedSpec)

end Rows
end Go.Proofs.Ytcpjhlkcfohkiaa
