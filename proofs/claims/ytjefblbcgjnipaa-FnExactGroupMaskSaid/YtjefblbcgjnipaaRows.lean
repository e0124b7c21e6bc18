/-
  No cell of these rows narrows 'for every input' (looked for: loops, veiled, ifaces, maps, wideKeys, modest, calm, conditions, laid).
  DERIVED. THE GIVEN ROWS OF THIS SEAT. 6 by the template 'for every input the law returns true; each argument reads behind the call as it read before'; 0 by the template 'total and deterministic' (their statements: YtjefblbcgjnipaaTotals.lean).
  GIVEN WITH THE SEED: the statements are not yours to turn. If you find one false, say at which input.
  Laid BY PROGRAM, IN A SANDBOX (cutbox-rows.mjs): the forced cells as the released guide's own fill.sh prints them over the translation 7914c1d4e24983b6… (all of the seat's roots in one cut). By AI agents, Wed Nov 11 2026. No macro, syntax, notation, axiom, sorry.
-/
import Derived.Test.YtjefblbcgjnipaaChecked
import GoSem.Claim
import GoSem.ClaimJoined
import GoSem.ClaimMapViews
import Derived.JoinedTies
import Derived.KernelRfl
namespace Go.Proofs.Ytjefblbcgjnipaa
/- THE CELL 'sum', in the pinned program and in every row, IS THE sha256 OF THE DUMP (.gsa) THAT YtjefblbcgjnipaaProg.lean LOADS. Nothing in Lean hashes anything: it is a label: what it is worth is what the hold of that sum in a sandbox is worth. -/
noncomputable def Try.pinned : Pinned := { name := "ytjefblbcgjnipaa", sum := "7914c1d4e24983b6861f0741ed29e027e3559e8fdd6881f4d835d8471621bd14", checked := Try.checked }
namespace Rows
def none {H : Type} : Left H := { results := [], args := [] }

/-- 'laws.FnExactGroupsMany': WHATEVER THE INPUT: true; the input reads as it did. -/
def fnExactGroupsManySpec : ChangeSpec := { name := "fnExactGroupsMany", fn := fun _ => fun
  | [d1, d2] => { results := [.lit (.bool true)], args := [d1, d2] }
  | _ => none }
def fnExactGroupsManyRow : OpenClaim := { program := "ytjefblbcgjnipaa", sum := "7914c1d4e24983b6861f0741ed29e027e3559e8fdd6881f4d835d8471621bd14", func := "loop.example/lanekernel/laws.FnExactGroupsMany", spec := "fnExactGroupsMany", apart := false }
def FnExactGroupsManySaid : Prop := fnExactGroupsManyRow.holds Try.pinned (OpenSpec.ofChange fnExactGroupsManySpec)

/-- ITS FALSE NEIGHBOUR: 'it returns false'. Refute it at one input. -/
def fnExactGroupsManyWrong : ChangeSpec := { name := "fnExactGroupsMany", fn := fun _ => fun
  | [d1, d2] => { results := [.lit (.bool false)], args := [d1, d2] }
  | _ => none }
def FnExactGroupsManyWrongFalsely : Prop := fnExactGroupsManyRow.holds Try.pinned (OpenSpec.ofChange fnExactGroupsManyWrong)

/-- 'laws.FnExactGroupMask': WHATEVER THE INPUT: true; the input reads as it did. -/
def fnExactGroupMaskSpec : ChangeSpec := { name := "fnExactGroupMask", fn := fun _ => fun
  | [d1, d2, d3] => { results := [.lit (.bool true)], args := [d1, d2, d3] }
  | _ => none }
def fnExactGroupMaskRow : OpenClaim := { program := "ytjefblbcgjnipaa", sum := "7914c1d4e24983b6861f0741ed29e027e3559e8fdd6881f4d835d8471621bd14", func := "loop.example/lanekernel/laws.FnExactGroupMask", spec := "fnExactGroupMask", apart := false }
def FnExactGroupMaskSaid : Prop := fnExactGroupMaskRow.holds Try.pinned (OpenSpec.ofChange fnExactGroupMaskSpec)

/-- ITS FALSE NEIGHBOUR: 'it returns false'. Refute it at one input. -/
def fnExactGroupMaskWrong : ChangeSpec := { name := "fnExactGroupMask", fn := fun _ => fun
  | [d1, d2, d3] => { results := [.lit (.bool false)], args := [d1, d2, d3] }
  | _ => none }
def FnExactGroupMaskWrongFalsely : Prop := fnExactGroupMaskRow.holds Try.pinned (OpenSpec.ofChange fnExactGroupMaskWrong)

/-- 'laws.FnGroupsMany': WHATEVER THE INPUT: true; the input reads as it did. -/
def fnGroupsManySpec : ChangeSpec := { name := "fnGroupsMany", fn := fun _ => fun
  | [d] => { results := [.lit (.bool true)], args := [d] }
  | _ => none }
def fnGroupsManyRow : OpenClaim := { program := "ytjefblbcgjnipaa", sum := "7914c1d4e24983b6861f0741ed29e027e3559e8fdd6881f4d835d8471621bd14", func := "loop.example/lanekernel/laws.FnGroupsMany", spec := "fnGroupsMany", apart := false }
def FnGroupsManySaid : Prop := fnGroupsManyRow.holds Try.pinned (OpenSpec.ofChange fnGroupsManySpec)

/-- ITS FALSE NEIGHBOUR: 'it returns false'. Refute it at one input. -/
def fnGroupsManyWrong : ChangeSpec := { name := "fnGroupsMany", fn := fun _ => fun
  | [d] => { results := [.lit (.bool false)], args := [d] }
  | _ => none }
def FnGroupsManyWrongFalsely : Prop := fnGroupsManyRow.holds Try.pinned (OpenSpec.ofChange fnGroupsManyWrong)

/-- 'laws.FnGroupMask': WHATEVER THE INPUT: true; the input reads as it did. -/
def fnGroupMaskSpec : ChangeSpec := { name := "fnGroupMask", fn := fun _ => fun
  | [d] => { results := [.lit (.bool true)], args := [d] }
  | _ => none }
def fnGroupMaskRow : OpenClaim := { program := "ytjefblbcgjnipaa", sum := "7914c1d4e24983b6861f0741ed29e027e3559e8fdd6881f4d835d8471621bd14", func := "loop.example/lanekernel/laws.FnGroupMask", spec := "fnGroupMask", apart := false }
def FnGroupMaskSaid : Prop := fnGroupMaskRow.holds Try.pinned (OpenSpec.ofChange fnGroupMaskSpec)

/-- ITS FALSE NEIGHBOUR: 'it returns false'. Refute it at one input. -/
def fnGroupMaskWrong : ChangeSpec := { name := "fnGroupMask", fn := fun _ => fun
  | [d] => { results := [.lit (.bool false)], args := [d] }
  | _ => none }
def FnGroupMaskWrongFalsely : Prop := fnGroupMaskRow.holds Try.pinned (OpenSpec.ofChange fnGroupMaskWrong)

/-- 'laws.FnExactCanPick': WHATEVER THE INPUT: true; the input reads as it did. -/
def fnExactCanPickSpec : ChangeSpec := { name := "fnExactCanPick", fn := fun _ => fun
  | [d1, d2] => { results := [.lit (.bool true)], args := [d1, d2] }
  | _ => none }
def fnExactCanPickRow : OpenClaim := { program := "ytjefblbcgjnipaa", sum := "7914c1d4e24983b6861f0741ed29e027e3559e8fdd6881f4d835d8471621bd14", func := "loop.example/lanekernel/laws.FnExactCanPick", spec := "fnExactCanPick", apart := false }
def FnExactCanPickSaid : Prop := fnExactCanPickRow.holds Try.pinned (OpenSpec.ofChange fnExactCanPickSpec)

/-- ITS FALSE NEIGHBOUR: 'it returns false'. Refute it at one input. -/
def fnExactCanPickWrong : ChangeSpec := { name := "fnExactCanPick", fn := fun _ => fun
  | [d1, d2] => { results := [.lit (.bool false)], args := [d1, d2] }
  | _ => none }
def FnExactCanPickWrongFalsely : Prop := fnExactCanPickRow.holds Try.pinned (OpenSpec.ofChange fnExactCanPickWrong)

/-- 'laws.FnExactPickPlaces': WHATEVER THE INPUT: true; the input reads as it did. -/
def fnExactPickPlacesSpec : ChangeSpec := { name := "fnExactPickPlaces", fn := fun _ => fun
  | [d] => { results := [.lit (.bool true)], args := [d] }
  | _ => none }
def fnExactPickPlacesRow : OpenClaim := { program := "ytjefblbcgjnipaa", sum := "7914c1d4e24983b6861f0741ed29e027e3559e8fdd6881f4d835d8471621bd14", func := "loop.example/lanekernel/laws.FnExactPickPlaces", spec := "fnExactPickPlaces", apart := false }
def FnExactPickPlacesSaid : Prop := fnExactPickPlacesRow.holds Try.pinned (OpenSpec.ofChange fnExactPickPlacesSpec)

/-- ITS FALSE NEIGHBOUR: 'it returns false'. Refute it at one input. -/
def fnExactPickPlacesWrong : ChangeSpec := { name := "fnExactPickPlaces", fn := fun _ => fun
  | [d] => { results := [.lit (.bool false)], args := [d] }
  | _ => none }
def FnExactPickPlacesWrongFalsely : Prop := fnExactPickPlacesRow.holds Try.pinned (OpenSpec.ofChange fnExactPickPlacesWrong)

/- THE SECOND FORM. 'bulk': how many values and letters a reading holds, each counted each time it is reached (what is shared counts as often as it is met; a slice's spare places count too). A statement '..UptoSaid' is the law's where the arguments, and the package variables that the reading takes, are together of bulk at most 1048576: NARROWER than '..Said'. Prove '..Said' where nothing that the law and all that it calls make is longer than what came in: it says more and counts as full. Else prove '..UptoSaid'. A law counts once. -/
mutual
def uptoBulk {H : Type} : DataW H → Nat
  | .lit (.string bytes) => bytes.length + 1
  | .lit _ => 1
  | .nil => 1
  | .ptr d => uptoBulk d + 1
  | .slice elems spare => uptoBulkAll elems + uptoBulkAll spare + 1
  | .agg parts => uptoBulkAll parts + 1
  | .iface _ d => uptoBulk d + 1
  | .map entries => uptoBulkEntries entries + 1
  | .held _ => 1
def uptoBulkAll {H : Type} : List (DataW H) → Nat
  | [] => 0
  | d :: r => uptoBulk d + uptoBulkAll r
def uptoBulkEntries {H : Type} : List (Lit × DataW H) → Nat
  | [] => 0
  | x :: r => uptoBulkEntry x + uptoBulkEntries r
def uptoBulkEntry {H : Type} : Lit × DataW H → Nat
  | (.string bytes, d) => bytes.length + uptoBulk d + 1
  | (_, d) => uptoBulk d + 1
 end
def uptoSmall : (H : Type) → List (DataW H) → Bool := fun _ ds => decide (uptoBulkAll ds ≤ 1048576)
def OpenSpec.upto (s : _root_.Go.ChangeSpec) : _root_.Go.OpenSpec := { _root_.Go.OpenSpec.ofChange s with cond := some uptoSmall }

/-- 'laws.FnExactGroupsMany', WHERE WHAT IT READS IS OF BULK AT MOST 1048576: true; the input reads as it did. -/
def fnExactGroupsManyUptoRow : OpenClaim := { program := "ytjefblbcgjnipaa", sum := "7914c1d4e24983b6861f0741ed29e027e3559e8fdd6881f4d835d8471621bd14", func := "loop.example/lanekernel/laws.FnExactGroupsMany", spec := "fnExactGroupsMany", apart := false, narrowed := true }
def FnExactGroupsManyUptoSaid : Prop := fnExactGroupsManyUptoRow.holds Try.pinned (OpenSpec.upto fnExactGroupsManySpec)

/-- 'laws.FnExactGroupMask', WHERE WHAT IT READS IS OF BULK AT MOST 1048576: true; the input reads as it did. -/
def fnExactGroupMaskUptoRow : OpenClaim := { program := "ytjefblbcgjnipaa", sum := "7914c1d4e24983b6861f0741ed29e027e3559e8fdd6881f4d835d8471621bd14", func := "loop.example/lanekernel/laws.FnExactGroupMask", spec := "fnExactGroupMask", apart := false, narrowed := true }
def FnExactGroupMaskUptoSaid : Prop := fnExactGroupMaskUptoRow.holds Try.pinned (OpenSpec.upto fnExactGroupMaskSpec)

/-- 'laws.FnGroupsMany', WHERE WHAT IT READS IS OF BULK AT MOST 1048576: true; the input reads as it did. -/
def fnGroupsManyUptoRow : OpenClaim := { program := "ytjefblbcgjnipaa", sum := "7914c1d4e24983b6861f0741ed29e027e3559e8fdd6881f4d835d8471621bd14", func := "loop.example/lanekernel/laws.FnGroupsMany", spec := "fnGroupsMany", apart := false, narrowed := true }
def FnGroupsManyUptoSaid : Prop := fnGroupsManyUptoRow.holds Try.pinned (OpenSpec.upto fnGroupsManySpec)

/-- 'laws.FnGroupMask', WHERE WHAT IT READS IS OF BULK AT MOST 1048576: true; the input reads as it did. -/
def fnGroupMaskUptoRow : OpenClaim := { program := "ytjefblbcgjnipaa", sum := "7914c1d4e24983b6861f0741ed29e027e3559e8fdd6881f4d835d8471621bd14", func := "loop.example/lanekernel/laws.FnGroupMask", spec := "fnGroupMask", apart := false, narrowed := true }
def FnGroupMaskUptoSaid : Prop := fnGroupMaskUptoRow.holds Try.pinned (OpenSpec.upto fnGroupMaskSpec)

/-- 'laws.FnExactCanPick', WHERE WHAT IT READS IS OF BULK AT MOST 1048576: true; the input reads as it did. -/
def fnExactCanPickUptoRow : OpenClaim := { program := "ytjefblbcgjnipaa", sum := "7914c1d4e24983b6861f0741ed29e027e3559e8fdd6881f4d835d8471621bd14", func := "loop.example/lanekernel/laws.FnExactCanPick", spec := "fnExactCanPick", apart := false, narrowed := true }
def FnExactCanPickUptoSaid : Prop := fnExactCanPickUptoRow.holds Try.pinned (OpenSpec.upto fnExactCanPickSpec)

/-- 'laws.FnExactPickPlaces', WHERE WHAT IT READS IS OF BULK AT MOST 1048576: true; the input reads as it did. -/
def fnExactPickPlacesUptoRow : OpenClaim := { program := "ytjefblbcgjnipaa", sum := "7914c1d4e24983b6861f0741ed29e027e3559e8fdd6881f4d835d8471621bd14", func := "loop.example/lanekernel/laws.FnExactPickPlaces", spec := "fnExactPickPlaces", apart := false, narrowed := true }
def FnExactPickPlacesUptoSaid : Prop := fnExactPickPlacesUptoRow.holds Try.pinned (OpenSpec.upto fnExactPickPlacesSpec)

end Rows
end Go.Proofs.Ytjefblbcgjnipaa
