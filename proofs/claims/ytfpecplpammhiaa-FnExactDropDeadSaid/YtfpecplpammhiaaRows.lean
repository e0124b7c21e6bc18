/-
  No cell of these rows narrows 'for every input' (looked for: loops, veiled, ifaces, maps, wideKeys, modest, calm, conditions, laid).
  DERIVED. THE GIVEN ROWS OF THIS SEAT. 12 by the template 'for every input the law returns true; each argument reads behind the call as it read before'; 0 by the template 'total and deterministic' (their statements: YtfpecplpammhiaaTotals.lean).
  GIVEN WITH THE SEED: the statements are not yours to turn. If you find one false, say at which input.
  Laid BY PROGRAM, IN A SANDBOX (cutbox-rows.mjs): the forced cells as the released guide's own fill.sh prints them over the translation 071e2a996b95d186… (all of the seat's roots in one cut). By AI agents, Wed Nov 11 2026. No macro, syntax, notation, axiom, sorry.
-/
import Derived.Test.YtfpecplpammhiaaChecked
import GoSem.Claim
import GoSem.ClaimJoined
import GoSem.ClaimMapViews
import Derived.JoinedTies
import Derived.KernelRfl
namespace Go.Proofs.Ytfpecplpammhiaa
/- THE CELL 'sum', in the pinned program and in every row, IS THE sha256 OF THE DUMP (.gsa) THAT YtfpecplpammhiaaProg.lean LOADS. Nothing in Lean hashes anything: it is a label: what it is worth is what the hold of that sum in a sandbox is worth. -/
noncomputable def Try.pinned : Pinned := { name := "ytfpecplpammhiaa", sum := "071e2a996b95d18629b9785aeceb6ebb8acd645fbb60fbe012ed53f5513b4920", checked := Try.checked }
namespace Rows
def none {H : Type} : Left H := { results := [], args := [] }

/-- 'laws.FnExactCanPick': WHATEVER THE INPUT: true; the input reads as it did. -/
def fnExactCanPickSpec : ChangeSpec := { name := "fnExactCanPick", fn := fun _ => fun
  | [d1, d2] => { results := [.lit (.bool true)], args := [d1, d2] }
  | _ => none }
def fnExactCanPickRow : OpenClaim := { program := "ytfpecplpammhiaa", sum := "071e2a996b95d18629b9785aeceb6ebb8acd645fbb60fbe012ed53f5513b4920", func := "loop.example/lanekernel/laws.FnExactCanPick", spec := "fnExactCanPick", apart := false }
def FnExactCanPickSaid : Prop := fnExactCanPickRow.holds Try.pinned (OpenSpec.ofChange fnExactCanPickSpec)

/-- ITS FALSE NEIGHBOUR: 'it returns false'. Refute it at one input. -/
def fnExactCanPickWrong : ChangeSpec := { name := "fnExactCanPick", fn := fun _ => fun
  | [d1, d2] => { results := [.lit (.bool false)], args := [d1, d2] }
  | _ => none }
def FnExactCanPickWrongFalsely : Prop := fnExactCanPickRow.holds Try.pinned (OpenSpec.ofChange fnExactCanPickWrong)

/-- 'laws.FnExactPickPlaces': WHATEVER THE INPUT: true; the input reads as it did. -/
def fnExactPickPlacesSpec : ChangeSpec := { name := "fnExactPickPlaces", fn := fun _ => fun
  | [d] => { results := [.lit (.bool true)], args := [d] }
  | _ => none }
def fnExactPickPlacesRow : OpenClaim := { program := "ytfpecplpammhiaa", sum := "071e2a996b95d18629b9785aeceb6ebb8acd645fbb60fbe012ed53f5513b4920", func := "loop.example/lanekernel/laws.FnExactPickPlaces", spec := "fnExactPickPlaces", apart := false }
def FnExactPickPlacesSaid : Prop := fnExactPickPlacesRow.holds Try.pinned (OpenSpec.ofChange fnExactPickPlacesSpec)

/-- ITS FALSE NEIGHBOUR: 'it returns false'. Refute it at one input. -/
def fnExactPickPlacesWrong : ChangeSpec := { name := "fnExactPickPlaces", fn := fun _ => fun
  | [d] => { results := [.lit (.bool false)], args := [d] }
  | _ => none }
def FnExactPickPlacesWrongFalsely : Prop := fnExactPickPlacesRow.holds Try.pinned (OpenSpec.ofChange fnExactPickPlacesWrong)

/-- 'laws.FnExactUsePicks': WHATEVER THE INPUT: true; the input reads as it did. -/
def fnExactUsePicksSpec : ChangeSpec := { name := "fnExactUsePicks", fn := fun _ => fun
  | [d] => { results := [.lit (.bool true)], args := [d] }
  | _ => none }
def fnExactUsePicksRow : OpenClaim := { program := "ytfpecplpammhiaa", sum := "071e2a996b95d18629b9785aeceb6ebb8acd645fbb60fbe012ed53f5513b4920", func := "loop.example/lanekernel/laws.FnExactUsePicks", spec := "fnExactUsePicks", apart := false }
def FnExactUsePicksSaid : Prop := fnExactUsePicksRow.holds Try.pinned (OpenSpec.ofChange fnExactUsePicksSpec)

/-- ITS FALSE NEIGHBOUR: 'it returns false'. Refute it at one input. -/
def fnExactUsePicksWrong : ChangeSpec := { name := "fnExactUsePicks", fn := fun _ => fun
  | [d] => { results := [.lit (.bool false)], args := [d] }
  | _ => none }
def FnExactUsePicksWrongFalsely : Prop := fnExactUsePicksRow.holds Try.pinned (OpenSpec.ofChange fnExactUsePicksWrong)

/-- 'laws.FnExactRegsUsed': WHATEVER THE INPUT: true; the input reads as it did. -/
def fnExactRegsUsedSpec : ChangeSpec := { name := "fnExactRegsUsed", fn := fun _ => fun
  | [d] => { results := [.lit (.bool true)], args := [d] }
  | _ => none }
def fnExactRegsUsedRow : OpenClaim := { program := "ytfpecplpammhiaa", sum := "071e2a996b95d18629b9785aeceb6ebb8acd645fbb60fbe012ed53f5513b4920", func := "loop.example/lanekernel/laws.FnExactRegsUsed", spec := "fnExactRegsUsed", apart := false }
def FnExactRegsUsedSaid : Prop := fnExactRegsUsedRow.holds Try.pinned (OpenSpec.ofChange fnExactRegsUsedSpec)

/-- ITS FALSE NEIGHBOUR: 'it returns false'. Refute it at one input. -/
def fnExactRegsUsedWrong : ChangeSpec := { name := "fnExactRegsUsed", fn := fun _ => fun
  | [d] => { results := [.lit (.bool false)], args := [d] }
  | _ => none }
def FnExactRegsUsedWrongFalsely : Prop := fnExactRegsUsedRow.holds Try.pinned (OpenSpec.ofChange fnExactRegsUsedWrong)

/-- 'laws.FnExactSwapRegs': WHATEVER THE INPUT: true; the input reads as it did. -/
def fnExactSwapRegsSpec : ChangeSpec := { name := "fnExactSwapRegs", fn := fun _ => fun
  | [d1, d2, d3] => { results := [.lit (.bool true)], args := [d1, d2, d3] }
  | _ => none }
def fnExactSwapRegsRow : OpenClaim := { program := "ytfpecplpammhiaa", sum := "071e2a996b95d18629b9785aeceb6ebb8acd645fbb60fbe012ed53f5513b4920", func := "loop.example/lanekernel/laws.FnExactSwapRegs", spec := "fnExactSwapRegs", apart := false }
def FnExactSwapRegsSaid : Prop := fnExactSwapRegsRow.holds Try.pinned (OpenSpec.ofChange fnExactSwapRegsSpec)

/-- ITS FALSE NEIGHBOUR: 'it returns false'. Refute it at one input. -/
def fnExactSwapRegsWrong : ChangeSpec := { name := "fnExactSwapRegs", fn := fun _ => fun
  | [d1, d2, d3] => { results := [.lit (.bool false)], args := [d1, d2, d3] }
  | _ => none }
def FnExactSwapRegsWrongFalsely : Prop := fnExactSwapRegsRow.holds Try.pinned (OpenSpec.ofChange fnExactSwapRegsWrong)

/-- 'laws.FnExactRenameRegs': WHATEVER THE INPUT: true; the input reads as it did. -/
def fnExactRenameRegsSpec : ChangeSpec := { name := "fnExactRenameRegs", fn := fun _ => fun
  | [d1, d2] => { results := [.lit (.bool true)], args := [d1, d2] }
  | _ => none }
def fnExactRenameRegsRow : OpenClaim := { program := "ytfpecplpammhiaa", sum := "071e2a996b95d18629b9785aeceb6ebb8acd645fbb60fbe012ed53f5513b4920", func := "loop.example/lanekernel/laws.FnExactRenameRegs", spec := "fnExactRenameRegs", apart := false }
def FnExactRenameRegsSaid : Prop := fnExactRenameRegsRow.holds Try.pinned (OpenSpec.ofChange fnExactRenameRegsSpec)

/-- ITS FALSE NEIGHBOUR: 'it returns false'. Refute it at one input. -/
def fnExactRenameRegsWrong : ChangeSpec := { name := "fnExactRenameRegs", fn := fun _ => fun
  | [d1, d2] => { results := [.lit (.bool false)], args := [d1, d2] }
  | _ => none }
def FnExactRenameRegsWrongFalsely : Prop := fnExactRenameRegsRow.holds Try.pinned (OpenSpec.ofChange fnExactRenameRegsWrong)

/-- 'laws.FnExactPeelLoop': WHATEVER THE INPUT: true; the input reads as it did. -/
def fnExactPeelLoopSpec : ChangeSpec := { name := "fnExactPeelLoop", fn := fun _ => fun
  | [d1, d2] => { results := [.lit (.bool true)], args := [d1, d2] }
  | _ => none }
def fnExactPeelLoopRow : OpenClaim := { program := "ytfpecplpammhiaa", sum := "071e2a996b95d18629b9785aeceb6ebb8acd645fbb60fbe012ed53f5513b4920", func := "loop.example/lanekernel/laws.FnExactPeelLoop", spec := "fnExactPeelLoop", apart := false }
def FnExactPeelLoopSaid : Prop := fnExactPeelLoopRow.holds Try.pinned (OpenSpec.ofChange fnExactPeelLoopSpec)

/-- ITS FALSE NEIGHBOUR: 'it returns false'. Refute it at one input. -/
def fnExactPeelLoopWrong : ChangeSpec := { name := "fnExactPeelLoop", fn := fun _ => fun
  | [d1, d2] => { results := [.lit (.bool false)], args := [d1, d2] }
  | _ => none }
def FnExactPeelLoopWrongFalsely : Prop := fnExactPeelLoopRow.holds Try.pinned (OpenSpec.ofChange fnExactPeelLoopWrong)

/-- 'laws.FnExactPeelPlaces': WHATEVER THE INPUT: true; the input reads as it did. -/
def fnExactPeelPlacesSpec : ChangeSpec := { name := "fnExactPeelPlaces", fn := fun _ => fun
  | [d] => { results := [.lit (.bool true)], args := [d] }
  | _ => none }
def fnExactPeelPlacesRow : OpenClaim := { program := "ytfpecplpammhiaa", sum := "071e2a996b95d18629b9785aeceb6ebb8acd645fbb60fbe012ed53f5513b4920", func := "loop.example/lanekernel/laws.FnExactPeelPlaces", spec := "fnExactPeelPlaces", apart := false }
def FnExactPeelPlacesSaid : Prop := fnExactPeelPlacesRow.holds Try.pinned (OpenSpec.ofChange fnExactPeelPlacesSpec)

/-- ITS FALSE NEIGHBOUR: 'it returns false'. Refute it at one input. -/
def fnExactPeelPlacesWrong : ChangeSpec := { name := "fnExactPeelPlaces", fn := fun _ => fun
  | [d] => { results := [.lit (.bool false)], args := [d] }
  | _ => none }
def FnExactPeelPlacesWrongFalsely : Prop := fnExactPeelPlacesRow.holds Try.pinned (OpenSpec.ofChange fnExactPeelPlacesWrong)

/-- 'laws.FnExactPeelSome': WHATEVER THE INPUT: true; the input reads as it did. -/
def fnExactPeelSomeSpec : ChangeSpec := { name := "fnExactPeelSome", fn := fun _ => fun
  | [d1, d2] => { results := [.lit (.bool true)], args := [d1, d2] }
  | _ => none }
def fnExactPeelSomeRow : OpenClaim := { program := "ytfpecplpammhiaa", sum := "071e2a996b95d18629b9785aeceb6ebb8acd645fbb60fbe012ed53f5513b4920", func := "loop.example/lanekernel/laws.FnExactPeelSome", spec := "fnExactPeelSome", apart := false }
def FnExactPeelSomeSaid : Prop := fnExactPeelSomeRow.holds Try.pinned (OpenSpec.ofChange fnExactPeelSomeSpec)

/-- ITS FALSE NEIGHBOUR: 'it returns false'. Refute it at one input. -/
def fnExactPeelSomeWrong : ChangeSpec := { name := "fnExactPeelSome", fn := fun _ => fun
  | [d1, d2] => { results := [.lit (.bool false)], args := [d1, d2] }
  | _ => none }
def FnExactPeelSomeWrongFalsely : Prop := fnExactPeelSomeRow.holds Try.pinned (OpenSpec.ofChange fnExactPeelSomeWrong)

/-- 'laws.FnExactPackRegs': WHATEVER THE INPUT: true; the input reads as it did. -/
def fnExactPackRegsSpec : ChangeSpec := { name := "fnExactPackRegs", fn := fun _ => fun
  | [d] => { results := [.lit (.bool true)], args := [d] }
  | _ => none }
def fnExactPackRegsRow : OpenClaim := { program := "ytfpecplpammhiaa", sum := "071e2a996b95d18629b9785aeceb6ebb8acd645fbb60fbe012ed53f5513b4920", func := "loop.example/lanekernel/laws.FnExactPackRegs", spec := "fnExactPackRegs", apart := false }
def FnExactPackRegsSaid : Prop := fnExactPackRegsRow.holds Try.pinned (OpenSpec.ofChange fnExactPackRegsSpec)

/-- ITS FALSE NEIGHBOUR: 'it returns false'. Refute it at one input. -/
def fnExactPackRegsWrong : ChangeSpec := { name := "fnExactPackRegs", fn := fun _ => fun
  | [d] => { results := [.lit (.bool false)], args := [d] }
  | _ => none }
def FnExactPackRegsWrongFalsely : Prop := fnExactPackRegsRow.holds Try.pinned (OpenSpec.ofChange fnExactPackRegsWrong)

/-- 'laws.FnExactDropDead': WHATEVER THE INPUT: true; the input reads as it did. -/
def fnExactDropDeadSpec : ChangeSpec := { name := "fnExactDropDead", fn := fun _ => fun
  | [d] => { results := [.lit (.bool true)], args := [d] }
  | _ => none }
def fnExactDropDeadRow : OpenClaim := { program := "ytfpecplpammhiaa", sum := "071e2a996b95d18629b9785aeceb6ebb8acd645fbb60fbe012ed53f5513b4920", func := "loop.example/lanekernel/laws.FnExactDropDead", spec := "fnExactDropDead", apart := false }
def FnExactDropDeadSaid : Prop := fnExactDropDeadRow.holds Try.pinned (OpenSpec.ofChange fnExactDropDeadSpec)

/-- ITS FALSE NEIGHBOUR: 'it returns false'. Refute it at one input. -/
def fnExactDropDeadWrong : ChangeSpec := { name := "fnExactDropDead", fn := fun _ => fun
  | [d] => { results := [.lit (.bool false)], args := [d] }
  | _ => none }
def FnExactDropDeadWrongFalsely : Prop := fnExactDropDeadRow.holds Try.pinned (OpenSpec.ofChange fnExactDropDeadWrong)

/-- 'laws.FnExactOptimize': WHATEVER THE INPUT: true; the input reads as it did. -/
def fnExactOptimizeSpec : ChangeSpec := { name := "fnExactOptimize", fn := fun _ => fun
  | [d] => { results := [.lit (.bool true)], args := [d] }
  | _ => none }
def fnExactOptimizeRow : OpenClaim := { program := "ytfpecplpammhiaa", sum := "071e2a996b95d18629b9785aeceb6ebb8acd645fbb60fbe012ed53f5513b4920", func := "loop.example/lanekernel/laws.FnExactOptimize", spec := "fnExactOptimize", apart := false }
def FnExactOptimizeSaid : Prop := fnExactOptimizeRow.holds Try.pinned (OpenSpec.ofChange fnExactOptimizeSpec)

/-- ITS FALSE NEIGHBOUR: 'it returns false'. Refute it at one input. -/
def fnExactOptimizeWrong : ChangeSpec := { name := "fnExactOptimize", fn := fun _ => fun
  | [d] => { results := [.lit (.bool false)], args := [d] }
  | _ => none }
def FnExactOptimizeWrongFalsely : Prop := fnExactOptimizeRow.holds Try.pinned (OpenSpec.ofChange fnExactOptimizeWrong)

/- THE SECOND FORM. 'bulk': how many values and letters a reading holds, each counted each time it is reached (what is shared counts as often as it is met; a slice's spare places count too). A statement '..UptoSaid' is the law's where the arguments, and the package variables that the reading takes, are together of bulk at most 1048576: NARROWER than '..Said'. Prove '..Said' where nothing that the law and all that it calls make is longer than what came in: it says more and counts as full. Else prove '..UptoSaid'. A law counts once. -/
mutual
def uptoBulk {H : Type} : DataW H → Nat
  | .lit (.string bytes) => bytes.length + 1
  | .lit _ => 1
  | .nil => 1
  | .ptr d => uptoBulk d + 1
  | .slice elems spare => uptoBulkAll elems + uptoBulkAll spare + 1
  | .agg parts => uptoBulkAll parts + 1
  | .iface _ d => uptoBulk d + 1
  | .map entries => uptoBulkEntries entries + 1
  | .held _ => 1
def uptoBulkAll {H : Type} : List (DataW H) → Nat
  | [] => 0
  | d :: r => uptoBulk d + uptoBulkAll r
def uptoBulkEntries {H : Type} : List (Lit × DataW H) → Nat
  | [] => 0
  | x :: r => uptoBulkEntry x + uptoBulkEntries r
def uptoBulkEntry {H : Type} : Lit × DataW H → Nat
  | (.string bytes, d) => bytes.length + uptoBulk d + 1
  | (_, d) => uptoBulk d + 1
 end
def uptoSmall : (H : Type) → List (DataW H) → Bool := fun _ ds => decide (uptoBulkAll ds ≤ 1048576)
def OpenSpec.upto (s : _root_.Go.ChangeSpec) : _root_.Go.OpenSpec := { _root_.Go.OpenSpec.ofChange s with cond := some uptoSmall }

/-- 'laws.FnExactCanPick', WHERE WHAT IT READS IS OF BULK AT MOST 1048576: true; the input reads as it did. -/
def fnExactCanPickUptoRow : OpenClaim := { program := "ytfpecplpammhiaa", sum := "071e2a996b95d18629b9785aeceb6ebb8acd645fbb60fbe012ed53f5513b4920", func := "loop.example/lanekernel/laws.FnExactCanPick", spec := "fnExactCanPick", apart := false, narrowed := true }
def FnExactCanPickUptoSaid : Prop := fnExactCanPickUptoRow.holds Try.pinned (OpenSpec.upto fnExactCanPickSpec)

/-- 'laws.FnExactPickPlaces', WHERE WHAT IT READS IS OF BULK AT MOST 1048576: true; the input reads as it did. -/
def fnExactPickPlacesUptoRow : OpenClaim := { program := "ytfpecplpammhiaa", sum := "071e2a996b95d18629b9785aeceb6ebb8acd645fbb60fbe012ed53f5513b4920", func := "loop.example/lanekernel/laws.FnExactPickPlaces", spec := "fnExactPickPlaces", apart := false, narrowed := true }
def FnExactPickPlacesUptoSaid : Prop := fnExactPickPlacesUptoRow.holds Try.pinned (OpenSpec.upto fnExactPickPlacesSpec)

/-- 'laws.FnExactUsePicks', WHERE WHAT IT READS IS OF BULK AT MOST 1048576: true; the input reads as it did. -/
def fnExactUsePicksUptoRow : OpenClaim := { program := "ytfpecplpammhiaa", sum := "071e2a996b95d18629b9785aeceb6ebb8acd645fbb60fbe012ed53f5513b4920", func := "loop.example/lanekernel/laws.FnExactUsePicks", spec := "fnExactUsePicks", apart := false, narrowed := true }
def FnExactUsePicksUptoSaid : Prop := fnExactUsePicksUptoRow.holds Try.pinned (OpenSpec.upto fnExactUsePicksSpec)

/-- 'laws.FnExactRegsUsed', WHERE WHAT IT READS IS OF BULK AT MOST 1048576: true; the input reads as it did. -/
def fnExactRegsUsedUptoRow : OpenClaim := { program := "ytfpecplpammhiaa", sum := "071e2a996b95d18629b9785aeceb6ebb8acd645fbb60fbe012ed53f5513b4920", func := "loop.example/lanekernel/laws.FnExactRegsUsed", spec := "fnExactRegsUsed", apart := false, narrowed := true }
def FnExactRegsUsedUptoSaid : Prop := fnExactRegsUsedUptoRow.holds Try.pinned (OpenSpec.upto fnExactRegsUsedSpec)

/-- 'laws.FnExactSwapRegs', WHERE WHAT IT READS IS OF BULK AT MOST 1048576: true; the input reads as it did. -/
def fnExactSwapRegsUptoRow : OpenClaim := { program := "ytfpecplpammhiaa", sum := "071e2a996b95d18629b9785aeceb6ebb8acd645fbb60fbe012ed53f5513b4920", func := "loop.example/lanekernel/laws.FnExactSwapRegs", spec := "fnExactSwapRegs", apart := false, narrowed := true }
def FnExactSwapRegsUptoSaid : Prop := fnExactSwapRegsUptoRow.holds Try.pinned (OpenSpec.upto fnExactSwapRegsSpec)

/-- 'laws.FnExactRenameRegs', WHERE WHAT IT READS IS OF BULK AT MOST 1048576: true; the input reads as it did. -/
def fnExactRenameRegsUptoRow : OpenClaim := { program := "ytfpecplpammhiaa", sum := "071e2a996b95d18629b9785aeceb6ebb8acd645fbb60fbe012ed53f5513b4920", func := "loop.example/lanekernel/laws.FnExactRenameRegs", spec := "fnExactRenameRegs", apart := false, narrowed := true }
def FnExactRenameRegsUptoSaid : Prop := fnExactRenameRegsUptoRow.holds Try.pinned (OpenSpec.upto fnExactRenameRegsSpec)

/-- 'laws.FnExactPeelLoop', WHERE WHAT IT READS IS OF BULK AT MOST 1048576: true; the input reads as it did. -/
def fnExactPeelLoopUptoRow : OpenClaim := { program := "ytfpecplpammhiaa", sum := "071e2a996b95d18629b9785aeceb6ebb8acd645fbb60fbe012ed53f5513b4920", func := "loop.example/lanekernel/laws.FnExactPeelLoop", spec := "fnExactPeelLoop", apart := false, narrowed := true }
def FnExactPeelLoopUptoSaid : Prop := fnExactPeelLoopUptoRow.holds Try.pinned (OpenSpec.upto fnExactPeelLoopSpec)

/-- 'laws.FnExactPeelPlaces', WHERE WHAT IT READS IS OF BULK AT MOST 1048576: true; the input reads as it did. -/
def fnExactPeelPlacesUptoRow : OpenClaim := { program := "ytfpecplpammhiaa", sum := "071e2a996b95d18629b9785aeceb6ebb8acd645fbb60fbe012ed53f5513b4920", func := "loop.example/lanekernel/laws.FnExactPeelPlaces", spec := "fnExactPeelPlaces", apart := false, narrowed := true }
def FnExactPeelPlacesUptoSaid : Prop := fnExactPeelPlacesUptoRow.holds Try.pinned (OpenSpec.upto fnExactPeelPlacesSpec)

/-- 'laws.FnExactPeelSome', WHERE WHAT IT READS IS OF BULK AT MOST 1048576: true; the input reads as it did. -/
def fnExactPeelSomeUptoRow : OpenClaim := { program := "ytfpecplpammhiaa", sum := "071e2a996b95d18629b9785aeceb6ebb8acd645fbb60fbe012ed53f5513b4920", func := "loop.example/lanekernel/laws.FnExactPeelSome", spec := "fnExactPeelSome", apart := false, narrowed := true }
def FnExactPeelSomeUptoSaid : Prop := fnExactPeelSomeUptoRow.holds Try.pinned (OpenSpec.upto fnExactPeelSomeSpec)

/-- 'laws.FnExactPackRegs', WHERE WHAT IT READS IS OF BULK AT MOST 1048576: true; the input reads as it did. -/
def fnExactPackRegsUptoRow : OpenClaim := { program := "ytfpecplpammhiaa", sum := "071e2a996b95d18629b9785aeceb6ebb8acd645fbb60fbe012ed53f5513b4920", func := "loop.example/lanekernel/laws.FnExactPackRegs", spec := "fnExactPackRegs", apart := false, narrowed := true }
def FnExactPackRegsUptoSaid : Prop := fnExactPackRegsUptoRow.holds Try.pinned (OpenSpec.upto fnExactPackRegsSpec)

/-- 'laws.FnExactDropDead', WHERE WHAT IT READS IS OF BULK AT MOST 1048576: true; the input reads as it did. -/
def fnExactDropDeadUptoRow : OpenClaim := { program := "ytfpecplpammhiaa", sum := "071e2a996b95d18629b9785aeceb6ebb8acd645fbb60fbe012ed53f5513b4920", func := "loop.example/lanekernel/laws.FnExactDropDead", spec := "fnExactDropDead", apart := false, narrowed := true }
def FnExactDropDeadUptoSaid : Prop := fnExactDropDeadUptoRow.holds Try.pinned (OpenSpec.upto fnExactDropDeadSpec)

/-- 'laws.FnExactOptimize', WHERE WHAT IT READS IS OF BULK AT MOST 1048576: true; the input reads as it did. -/
def fnExactOptimizeUptoRow : OpenClaim := { program := "ytfpecplpammhiaa", sum := "071e2a996b95d18629b9785aeceb6ebb8acd645fbb60fbe012ed53f5513b4920", func := "loop.example/lanekernel/laws.FnExactOptimize", spec := "fnExactOptimize", apart := false, narrowed := true }
def FnExactOptimizeUptoSaid : Prop := fnExactOptimizeUptoRow.holds Try.pinned (OpenSpec.upto fnExactOptimizeSpec)

end Rows
end Go.Proofs.Ytfpecplpammhiaa
