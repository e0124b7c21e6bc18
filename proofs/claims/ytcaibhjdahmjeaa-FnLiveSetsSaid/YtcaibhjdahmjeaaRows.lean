/-
  No cell of these rows narrows 'for every input' (looked for: loops, veiled, ifaces, maps, wideKeys, modest, calm, conditions, laid).
  DERIVED. THE GIVEN ROWS OF THIS SEAT. 12 by the template 'for every input the law returns true; each argument reads behind the call as it read before'; 0 by the template 'total and deterministic' (their statements: YtcaibhjdahmjeaaTotals.lean).
  GIVEN WITH THE SEED: the statements are not yours to turn. If you find one false, say at which input.
  Laid BY PROGRAM, IN A SANDBOX (cutbox-rows.mjs): the forced cells as the released guide's own fill.sh prints them over the translation c987d5b93a7a5194… (all of the seat's roots in one cut). By AI agents, Wed Nov 11 2026. No macro, syntax, notation, axiom, sorry.
-/
import Derived.Test.YtcaibhjdahmjeaaChecked
import GoSem.Claim
import GoSem.ClaimJoined
import GoSem.ClaimMapViews
import Derived.JoinedTies
import Derived.KernelRfl
namespace Go.Proofs.Ytcaibhjdahmjeaa
/- THE CELL 'sum', in the pinned program and in every row, IS THE sha256 OF THE DUMP (.gsa) THAT YtcaibhjdahmjeaaProg.lean LOADS. Nothing in Lean hashes anything: it is a label: what it is worth is what the hold of that sum in a sandbox is worth. -/
noncomputable def Try.pinned : Pinned := { name := "ytcaibhjdahmjeaa", sum := "c987d5b93a7a5194493a1aa060cadc522349a767bd1081ab4e5835949744ea62", checked := Try.checked }
namespace Rows
def none {H : Type} : Left H := { results := [], args := [] }

/-- 'laws.FnUsePicks': WHATEVER THE INPUT: true; the input reads as it did. -/
def fnUsePicksSpec : ChangeSpec := { name := "fnUsePicks", fn := fun _ => fun
  | [d1, d2] => { results := [.lit (.bool true)], args := [d1, d2] }
  | _ => none }
def fnUsePicksRow : OpenClaim := { program := "ytcaibhjdahmjeaa", sum := "c987d5b93a7a5194493a1aa060cadc522349a767bd1081ab4e5835949744ea62", func := "loop.example/lanekernel/laws.FnUsePicks", spec := "fnUsePicks", unfollowed := true, recurses := true, apart := false }
def FnUsePicksSaid : Prop := fnUsePicksRow.holds Try.pinned (OpenSpec.ofChange fnUsePicksSpec)

/-- ITS FALSE NEIGHBOUR: 'it returns false'. Refute it at one input. -/
def fnUsePicksWrong : ChangeSpec := { name := "fnUsePicks", fn := fun _ => fun
  | [d1, d2] => { results := [.lit (.bool false)], args := [d1, d2] }
  | _ => none }
def FnUsePicksWrongFalsely : Prop := fnUsePicksRow.holds Try.pinned (OpenSpec.ofChange fnUsePicksWrong)

/-- 'laws.FnRenameRegs': WHATEVER THE INPUT: true; the input reads as it did. -/
def fnRenameRegsSpec : ChangeSpec := { name := "fnRenameRegs", fn := fun _ => fun
  | [d] => { results := [.lit (.bool true)], args := [d] }
  | _ => none }
def fnRenameRegsRow : OpenClaim := { program := "ytcaibhjdahmjeaa", sum := "c987d5b93a7a5194493a1aa060cadc522349a767bd1081ab4e5835949744ea62", func := "loop.example/lanekernel/laws.FnRenameRegs", spec := "fnRenameRegs", unfollowed := true, recurses := true, apart := false }
def FnRenameRegsSaid : Prop := fnRenameRegsRow.holds Try.pinned (OpenSpec.ofChange fnRenameRegsSpec)

/-- ITS FALSE NEIGHBOUR: 'it returns false'. Refute it at one input. -/
def fnRenameRegsWrong : ChangeSpec := { name := "fnRenameRegs", fn := fun _ => fun
  | [d] => { results := [.lit (.bool false)], args := [d] }
  | _ => none }
def FnRenameRegsWrongFalsely : Prop := fnRenameRegsRow.holds Try.pinned (OpenSpec.ofChange fnRenameRegsWrong)

/-- 'laws.FnPeelLoop': WHATEVER THE INPUT: true; the input reads as it did. -/
def fnPeelLoopSpec : ChangeSpec := { name := "fnPeelLoop", fn := fun _ => fun
  | [d] => { results := [.lit (.bool true)], args := [d] }
  | _ => none }
def fnPeelLoopRow : OpenClaim := { program := "ytcaibhjdahmjeaa", sum := "c987d5b93a7a5194493a1aa060cadc522349a767bd1081ab4e5835949744ea62", func := "loop.example/lanekernel/laws.FnPeelLoop", spec := "fnPeelLoop", unfollowed := true, recurses := true, apart := false }
def FnPeelLoopSaid : Prop := fnPeelLoopRow.holds Try.pinned (OpenSpec.ofChange fnPeelLoopSpec)

/-- ITS FALSE NEIGHBOUR: 'it returns false'. Refute it at one input. -/
def fnPeelLoopWrong : ChangeSpec := { name := "fnPeelLoop", fn := fun _ => fun
  | [d] => { results := [.lit (.bool false)], args := [d] }
  | _ => none }
def FnPeelLoopWrongFalsely : Prop := fnPeelLoopRow.holds Try.pinned (OpenSpec.ofChange fnPeelLoopWrong)

/-- 'laws.FnPeelSome': WHATEVER THE INPUT: true; the input reads as it did. -/
def fnPeelSomeSpec : ChangeSpec := { name := "fnPeelSome", fn := fun _ => fun
  | [d] => { results := [.lit (.bool true)], args := [d] }
  | _ => none }
def fnPeelSomeRow : OpenClaim := { program := "ytcaibhjdahmjeaa", sum := "c987d5b93a7a5194493a1aa060cadc522349a767bd1081ab4e5835949744ea62", func := "loop.example/lanekernel/laws.FnPeelSome", spec := "fnPeelSome", unfollowed := true, recurses := true, apart := false }
def FnPeelSomeSaid : Prop := fnPeelSomeRow.holds Try.pinned (OpenSpec.ofChange fnPeelSomeSpec)

/-- ITS FALSE NEIGHBOUR: 'it returns false'. Refute it at one input. -/
def fnPeelSomeWrong : ChangeSpec := { name := "fnPeelSome", fn := fun _ => fun
  | [d] => { results := [.lit (.bool false)], args := [d] }
  | _ => none }
def FnPeelSomeWrongFalsely : Prop := fnPeelSomeRow.holds Try.pinned (OpenSpec.ofChange fnPeelSomeWrong)

/-- 'laws.FnPackRegs': WHATEVER THE INPUT: true; the input reads as it did. -/
def fnPackRegsSpec : ChangeSpec := { name := "fnPackRegs", fn := fun _ => fun
  | [d] => { results := [.lit (.bool true)], args := [d] }
  | _ => none }
def fnPackRegsRow : OpenClaim := { program := "ytcaibhjdahmjeaa", sum := "c987d5b93a7a5194493a1aa060cadc522349a767bd1081ab4e5835949744ea62", func := "loop.example/lanekernel/laws.FnPackRegs", spec := "fnPackRegs", unfollowed := true, recurses := true, apart := false }
def FnPackRegsSaid : Prop := fnPackRegsRow.holds Try.pinned (OpenSpec.ofChange fnPackRegsSpec)

/-- ITS FALSE NEIGHBOUR: 'it returns false'. Refute it at one input. -/
def fnPackRegsWrong : ChangeSpec := { name := "fnPackRegs", fn := fun _ => fun
  | [d] => { results := [.lit (.bool false)], args := [d] }
  | _ => none }
def FnPackRegsWrongFalsely : Prop := fnPackRegsRow.holds Try.pinned (OpenSpec.ofChange fnPackRegsWrong)

/-- 'laws.FnBarriersFlat': WHATEVER THE INPUT: true; the input reads as it did. -/
def fnBarriersFlatSpec : ChangeSpec := { name := "fnBarriersFlat", fn := fun _ => fun
  | [d] => { results := [.lit (.bool true)], args := [d] }
  | _ => none }
def fnBarriersFlatRow : OpenClaim := { program := "ytcaibhjdahmjeaa", sum := "c987d5b93a7a5194493a1aa060cadc522349a767bd1081ab4e5835949744ea62", func := "loop.example/lanekernel/laws.FnBarriersFlat", spec := "fnBarriersFlat", unfollowed := true, recurses := true, apart := false }
def FnBarriersFlatSaid : Prop := fnBarriersFlatRow.holds Try.pinned (OpenSpec.ofChange fnBarriersFlatSpec)

/-- ITS FALSE NEIGHBOUR: 'it returns false'. Refute it at one input. -/
def fnBarriersFlatWrong : ChangeSpec := { name := "fnBarriersFlat", fn := fun _ => fun
  | [d] => { results := [.lit (.bool false)], args := [d] }
  | _ => none }
def FnBarriersFlatWrongFalsely : Prop := fnBarriersFlatRow.holds Try.pinned (OpenSpec.ofChange fnBarriersFlatWrong)

/-- 'laws.FnDeadPlaces': WHATEVER THE INPUT: true; the input reads as it did. -/
def fnDeadPlacesSpec : ChangeSpec := { name := "fnDeadPlaces", fn := fun _ => fun
  | [d1, d2] => { results := [.lit (.bool true)], args := [d1, d2] }
  | _ => none }
def fnDeadPlacesRow : OpenClaim := { program := "ytcaibhjdahmjeaa", sum := "c987d5b93a7a5194493a1aa060cadc522349a767bd1081ab4e5835949744ea62", func := "loop.example/lanekernel/laws.FnDeadPlaces", spec := "fnDeadPlaces", unfollowed := true, recurses := true, apart := false }
def FnDeadPlacesSaid : Prop := fnDeadPlacesRow.holds Try.pinned (OpenSpec.ofChange fnDeadPlacesSpec)

/-- ITS FALSE NEIGHBOUR: 'it returns false'. Refute it at one input. -/
def fnDeadPlacesWrong : ChangeSpec := { name := "fnDeadPlaces", fn := fun _ => fun
  | [d1, d2] => { results := [.lit (.bool false)], args := [d1, d2] }
  | _ => none }
def FnDeadPlacesWrongFalsely : Prop := fnDeadPlacesRow.holds Try.pinned (OpenSpec.ofChange fnDeadPlacesWrong)

/-- 'laws.FnDropDead': WHATEVER THE INPUT: true; the input reads as it did. -/
def fnDropDeadSpec : ChangeSpec := { name := "fnDropDead", fn := fun _ => fun
  | [d1, d2] => { results := [.lit (.bool true)], args := [d1, d2] }
  | _ => none }
def fnDropDeadRow : OpenClaim := { program := "ytcaibhjdahmjeaa", sum := "c987d5b93a7a5194493a1aa060cadc522349a767bd1081ab4e5835949744ea62", func := "loop.example/lanekernel/laws.FnDropDead", spec := "fnDropDead", unfollowed := true, recurses := true, apart := false }
def FnDropDeadSaid : Prop := fnDropDeadRow.holds Try.pinned (OpenSpec.ofChange fnDropDeadSpec)

/-- ITS FALSE NEIGHBOUR: 'it returns false'. Refute it at one input. -/
def fnDropDeadWrong : ChangeSpec := { name := "fnDropDead", fn := fun _ => fun
  | [d1, d2] => { results := [.lit (.bool false)], args := [d1, d2] }
  | _ => none }
def FnDropDeadWrongFalsely : Prop := fnDropDeadRow.holds Try.pinned (OpenSpec.ofChange fnDropDeadWrong)

/-- 'laws.FnOptimize': WHATEVER THE INPUT: true; the input reads as it did. -/
def fnOptimizeSpec : ChangeSpec := { name := "fnOptimize", fn := fun _ => fun
  | [d1, d2] => { results := [.lit (.bool true)], args := [d1, d2] }
  | _ => none }
def fnOptimizeRow : OpenClaim := { program := "ytcaibhjdahmjeaa", sum := "c987d5b93a7a5194493a1aa060cadc522349a767bd1081ab4e5835949744ea62", func := "loop.example/lanekernel/laws.FnOptimize", spec := "fnOptimize", unfollowed := true, recurses := true, apart := false }
def FnOptimizeSaid : Prop := fnOptimizeRow.holds Try.pinned (OpenSpec.ofChange fnOptimizeSpec)

/-- ITS FALSE NEIGHBOUR: 'it returns false'. Refute it at one input. -/
def fnOptimizeWrong : ChangeSpec := { name := "fnOptimize", fn := fun _ => fun
  | [d1, d2] => { results := [.lit (.bool false)], args := [d1, d2] }
  | _ => none }
def FnOptimizeWrongFalsely : Prop := fnOptimizeRow.holds Try.pinned (OpenSpec.ofChange fnOptimizeWrong)

/-- 'laws.FnLiveStore': WHATEVER THE INPUT: true; the input reads as it did. -/
def fnLiveStoreSpec : ChangeSpec := { name := "fnLiveStore", fn := fun _ => fun
  | [d1, d2] => { results := [.lit (.bool true)], args := [d1, d2] }
  | _ => none }
def fnLiveStoreRow : OpenClaim := { program := "ytcaibhjdahmjeaa", sum := "c987d5b93a7a5194493a1aa060cadc522349a767bd1081ab4e5835949744ea62", func := "loop.example/lanekernel/laws.FnLiveStore", spec := "fnLiveStore", recurses := true, apart := false }
def FnLiveStoreSaid : Prop := fnLiveStoreRow.holds Try.pinned (OpenSpec.ofChange fnLiveStoreSpec)

/-- ITS FALSE NEIGHBOUR: 'it returns false'. Refute it at one input. -/
def fnLiveStoreWrong : ChangeSpec := { name := "fnLiveStore", fn := fun _ => fun
  | [d1, d2] => { results := [.lit (.bool false)], args := [d1, d2] }
  | _ => none }
def FnLiveStoreWrongFalsely : Prop := fnLiveStoreRow.holds Try.pinned (OpenSpec.ofChange fnLiveStoreWrong)

/-- 'laws.FnLiveSets': WHATEVER THE INPUT: true; the input reads as it did. -/
def fnLiveSetsSpec : ChangeSpec := { name := "fnLiveSets", fn := fun _ => fun
  | [d] => { results := [.lit (.bool true)], args := [d] }
  | _ => none }
def fnLiveSetsRow : OpenClaim := { program := "ytcaibhjdahmjeaa", sum := "c987d5b93a7a5194493a1aa060cadc522349a767bd1081ab4e5835949744ea62", func := "loop.example/lanekernel/laws.FnLiveSets", spec := "fnLiveSets", recurses := true, apart := false }
def FnLiveSetsSaid : Prop := fnLiveSetsRow.holds Try.pinned (OpenSpec.ofChange fnLiveSetsSpec)

/-- ITS FALSE NEIGHBOUR: 'it returns false'. Refute it at one input. -/
def fnLiveSetsWrong : ChangeSpec := { name := "fnLiveSets", fn := fun _ => fun
  | [d] => { results := [.lit (.bool false)], args := [d] }
  | _ => none }
def FnLiveSetsWrongFalsely : Prop := fnLiveSetsRow.holds Try.pinned (OpenSpec.ofChange fnLiveSetsWrong)

/-- 'laws.FnLiveMost': WHATEVER THE INPUT: true; the input reads as it did. -/
def fnLiveMostSpec : ChangeSpec := { name := "fnLiveMost", fn := fun _ => fun
  | [d] => { results := [.lit (.bool true)], args := [d] }
  | _ => none }
def fnLiveMostRow : OpenClaim := { program := "ytcaibhjdahmjeaa", sum := "c987d5b93a7a5194493a1aa060cadc522349a767bd1081ab4e5835949744ea62", func := "loop.example/lanekernel/laws.FnLiveMost", spec := "fnLiveMost", recurses := true, apart := false }
def FnLiveMostSaid : Prop := fnLiveMostRow.holds Try.pinned (OpenSpec.ofChange fnLiveMostSpec)

/-- ITS FALSE NEIGHBOUR: 'it returns false'. Refute it at one input. -/
def fnLiveMostWrong : ChangeSpec := { name := "fnLiveMost", fn := fun _ => fun
  | [d] => { results := [.lit (.bool false)], args := [d] }
  | _ => none }
def FnLiveMostWrongFalsely : Prop := fnLiveMostRow.holds Try.pinned (OpenSpec.ofChange fnLiveMostWrong)

/- THE SECOND FORM. 'bulk': how many values and letters a reading holds, each counted each time it is reached (what is shared counts as often as it is met; a slice's spare places count too). A statement '..UptoSaid' is the law's where the arguments, and the package variables that the reading takes, are together of bulk at most 1048576: NARROWER than '..Said'. Prove '..Said' where nothing that the law and all that it calls make is longer than what came in: it says more and counts as full. Else prove '..UptoSaid'. A law counts once. -/
mutual
def uptoBulk {H : Type} : DataW H → Nat
  | .lit (.string bytes) => bytes.length + 1
  | .lit _ => 1
  | .nil => 1
  | .ptr d => uptoBulk d + 1
  | .slice elems spare => uptoBulkAll elems + uptoBulkAll spare + 1
  | .agg parts => uptoBulkAll parts + 1
  | .iface _ d => uptoBulk d + 1
  | .map entries => uptoBulkEntries entries + 1
  | .held _ => 1
def uptoBulkAll {H : Type} : List (DataW H) → Nat
  | [] => 0
  | d :: r => uptoBulk d + uptoBulkAll r
def uptoBulkEntries {H : Type} : List (Lit × DataW H) → Nat
  | [] => 0
  | x :: r => uptoBulkEntry x + uptoBulkEntries r
def uptoBulkEntry {H : Type} : Lit × DataW H → Nat
  | (.string bytes, d) => bytes.length + uptoBulk d + 1
  | (_, d) => uptoBulk d + 1
 end
def uptoSmall : (H : Type) → List (DataW H) → Bool := fun _ ds => decide (uptoBulkAll ds ≤ 1048576)
def OpenSpec.upto (s : _root_.Go.ChangeSpec) : _root_.Go.OpenSpec := { _root_.Go.OpenSpec.ofChange s with cond := some uptoSmall }

/-- 'laws.FnUsePicks', WHERE WHAT IT READS IS OF BULK AT MOST 1048576: true; the input reads as it did. -/
def fnUsePicksUptoRow : OpenClaim := { program := "ytcaibhjdahmjeaa", sum := "c987d5b93a7a5194493a1aa060cadc522349a767bd1081ab4e5835949744ea62", func := "loop.example/lanekernel/laws.FnUsePicks", spec := "fnUsePicks", unfollowed := true, recurses := true, apart := false, narrowed := true }
def FnUsePicksUptoSaid : Prop := fnUsePicksUptoRow.holds Try.pinned (OpenSpec.upto fnUsePicksSpec)

/-- 'laws.FnRenameRegs', WHERE WHAT IT READS IS OF BULK AT MOST 1048576: true; the input reads as it did. -/
def fnRenameRegsUptoRow : OpenClaim := { program := "ytcaibhjdahmjeaa", sum := "c987d5b93a7a5194493a1aa060cadc522349a767bd1081ab4e5835949744ea62", func := "loop.example/lanekernel/laws.FnRenameRegs", spec := "fnRenameRegs", unfollowed := true, recurses := true, apart := false, narrowed := true }
def FnRenameRegsUptoSaid : Prop := fnRenameRegsUptoRow.holds Try.pinned (OpenSpec.upto fnRenameRegsSpec)

/-- 'laws.FnPeelLoop', WHERE WHAT IT READS IS OF BULK AT MOST 1048576: true; the input reads as it did. -/
def fnPeelLoopUptoRow : OpenClaim := { program := "ytcaibhjdahmjeaa", sum := "c987d5b93a7a5194493a1aa060cadc522349a767bd1081ab4e5835949744ea62", func := "loop.example/lanekernel/laws.FnPeelLoop", spec := "fnPeelLoop", unfollowed := true, recurses := true, apart := false, narrowed := true }
def FnPeelLoopUptoSaid : Prop := fnPeelLoopUptoRow.holds Try.pinned (OpenSpec.upto fnPeelLoopSpec)

/-- 'laws.FnPeelSome', WHERE WHAT IT READS IS OF BULK AT MOST 1048576: true; the input reads as it did. -/
def fnPeelSomeUptoRow : OpenClaim := { program := "ytcaibhjdahmjeaa", sum := "c987d5b93a7a5194493a1aa060cadc522349a767bd1081ab4e5835949744ea62", func := "loop.example/lanekernel/laws.FnPeelSome", spec := "fnPeelSome", unfollowed := true, recurses := true, apart := false, narrowed := true }
def FnPeelSomeUptoSaid : Prop := fnPeelSomeUptoRow.holds Try.pinned (OpenSpec.upto fnPeelSomeSpec)

/-- 'laws.FnPackRegs', WHERE WHAT IT READS IS OF BULK AT MOST 1048576: true; the input reads as it did. -/
def fnPackRegsUptoRow : OpenClaim := { program := "ytcaibhjdahmjeaa", sum := "c987d5b93a7a5194493a1aa060cadc522349a767bd1081ab4e5835949744ea62", func := "loop.example/lanekernel/laws.FnPackRegs", spec := "fnPackRegs", unfollowed := true, recurses := true, apart := false, narrowed := true }
def FnPackRegsUptoSaid : Prop := fnPackRegsUptoRow.holds Try.pinned (OpenSpec.upto fnPackRegsSpec)

/-- 'laws.FnBarriersFlat', WHERE WHAT IT READS IS OF BULK AT MOST 1048576: true; the input reads as it did. -/
def fnBarriersFlatUptoRow : OpenClaim := { program := "ytcaibhjdahmjeaa", sum := "c987d5b93a7a5194493a1aa060cadc522349a767bd1081ab4e5835949744ea62", func := "loop.example/lanekernel/laws.FnBarriersFlat", spec := "fnBarriersFlat", unfollowed := true, recurses := true, apart := false, narrowed := true }
def FnBarriersFlatUptoSaid : Prop := fnBarriersFlatUptoRow.holds Try.pinned (OpenSpec.upto fnBarriersFlatSpec)

/-- 'laws.FnDeadPlaces', WHERE WHAT IT READS IS OF BULK AT MOST 1048576: true; the input reads as it did. -/
def fnDeadPlacesUptoRow : OpenClaim := { program := "ytcaibhjdahmjeaa", sum := "c987d5b93a7a5194493a1aa060cadc522349a767bd1081ab4e5835949744ea62", func := "loop.example/lanekernel/laws.FnDeadPlaces", spec := "fnDeadPlaces", unfollowed := true, recurses := true, apart := false, narrowed := true }
def FnDeadPlacesUptoSaid : Prop := fnDeadPlacesUptoRow.holds Try.pinned (OpenSpec.upto fnDeadPlacesSpec)

/-- 'laws.FnDropDead', WHERE WHAT IT READS IS OF BULK AT MOST 1048576: true; the input reads as it did. -/
def fnDropDeadUptoRow : OpenClaim := { program := "ytcaibhjdahmjeaa", sum := "c987d5b93a7a5194493a1aa060cadc522349a767bd1081ab4e5835949744ea62", func := "loop.example/lanekernel/laws.FnDropDead", spec := "fnDropDead", unfollowed := true, recurses := true, apart := false, narrowed := true }
def FnDropDeadUptoSaid : Prop := fnDropDeadUptoRow.holds Try.pinned (OpenSpec.upto fnDropDeadSpec)

/-- 'laws.FnOptimize', WHERE WHAT IT READS IS OF BULK AT MOST 1048576: true; the input reads as it did. -/
def fnOptimizeUptoRow : OpenClaim := { program := "ytcaibhjdahmjeaa", sum := "c987d5b93a7a5194493a1aa060cadc522349a767bd1081ab4e5835949744ea62", func := "loop.example/lanekernel/laws.FnOptimize", spec := "fnOptimize", unfollowed := true, recurses := true, apart := false, narrowed := true }
def FnOptimizeUptoSaid : Prop := fnOptimizeUptoRow.holds Try.pinned (OpenSpec.upto fnOptimizeSpec)

/-- 'laws.FnLiveStore', WHERE WHAT IT READS IS OF BULK AT MOST 1048576: true; the input reads as it did. -/
def fnLiveStoreUptoRow : OpenClaim := { program := "ytcaibhjdahmjeaa", sum := "c987d5b93a7a5194493a1aa060cadc522349a767bd1081ab4e5835949744ea62", func := "loop.example/lanekernel/laws.FnLiveStore", spec := "fnLiveStore", recurses := true, apart := false, narrowed := true }
def FnLiveStoreUptoSaid : Prop := fnLiveStoreUptoRow.holds Try.pinned (OpenSpec.upto fnLiveStoreSpec)

/-- 'laws.FnLiveSets', WHERE WHAT IT READS IS OF BULK AT MOST 1048576: true; the input reads as it did. -/
def fnLiveSetsUptoRow : OpenClaim := { program := "ytcaibhjdahmjeaa", sum := "c987d5b93a7a5194493a1aa060cadc522349a767bd1081ab4e5835949744ea62", func := "loop.example/lanekernel/laws.FnLiveSets", spec := "fnLiveSets", recurses := true, apart := false, narrowed := true }
def FnLiveSetsUptoSaid : Prop := fnLiveSetsUptoRow.holds Try.pinned (OpenSpec.upto fnLiveSetsSpec)

/-- 'laws.FnLiveMost', WHERE WHAT IT READS IS OF BULK AT MOST 1048576: true; the input reads as it did. -/
def fnLiveMostUptoRow : OpenClaim := { program := "ytcaibhjdahmjeaa", sum := "c987d5b93a7a5194493a1aa060cadc522349a767bd1081ab4e5835949744ea62", func := "loop.example/lanekernel/laws.FnLiveMost", spec := "fnLiveMost", recurses := true, apart := false, narrowed := true }
def FnLiveMostUptoSaid : Prop := fnLiveMostUptoRow.holds Try.pinned (OpenSpec.upto fnLiveMostSpec)

end Rows
end Go.Proofs.Ytcaibhjdahmjeaa
