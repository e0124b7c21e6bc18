/-
  No cell of these rows narrows 'for every input' (looked for: loops, veiled, ifaces, maps, wideKeys, modest, calm, conditions, laid).
  DERIVED. THE GIVEN ROWS OF THIS SEAT. 6 by the template 'for every input the law returns true; each argument reads behind the call as it read before'; 0 by the template 'total and deterministic' (their statements: YtakeacndmnnbmaaGreatTotals.lean).
  GIVEN WITH THE SEED: the statements are not yours to turn. If you find one false, say at which input.
  Laid BY PROGRAM, IN A SANDBOX (cutbox-rows.mjs): the forced cells as the released guide's own fill.sh prints them over the translation 5def218558659a46… (all of the seat's roots in one cut). By AI agents, Wed Nov 11 2026. No macro, syntax, notation, axiom, sorry.
-/
import Derived.Test.YtakeacndmnnbmaaGreatChecked
import GoSem.Claim
import GoSem.ClaimJoined
import GoSem.ClaimMapViews
import Derived.JoinedTies
import Derived.KernelRfl
namespace Go.Proofs.YtakeacndmnnbmaaGreat
/- THE CELL 'sum', in the pinned program and in every row, IS THE sha256 OF THE DUMP (.gsa) THAT YtakeacndmnnbmaaGreatProg.lean LOADS. Nothing in Lean hashes anything: it is a label: what it is worth is what the hold of that sum in a sandbox is worth. -/
noncomputable def Tryz.pinned : Pinned := { name := "ytakeacndmnnbmaagreat", sum := "5def218558659a46aba9dac0f680d0544fa04b1b5dc6bad3b06e51f323160fb3", checked := Tryz.checked }
namespace Rows
def none {H : Type} : Left H := { results := [], args := [] }

/-- 'laws.FnExactLaunch': WHATEVER THE INPUT: true; the input reads as it did. -/
def fnExactLaunchSpec : ChangeSpec := { name := "fnExactLaunch", fn := fun _ => fun
  | [d1, d2, d3] => { results := [.lit (.bool true)], args := [d1, d2, d3] }
  | _ => none }
def fnExactLaunchRow : OpenClaim := { program := "ytakeacndmnnbmaagreat", sum := "5def218558659a46aba9dac0f680d0544fa04b1b5dc6bad3b06e51f323160fb3", func := "loop.example/lanekernel/laws.FnExactLaunch", spec := "fnExactLaunch", unfollowed := true, recurses := true, apart := false }
def FnExactLaunchSaid : Prop := fnExactLaunchRow.holds Tryz.pinned (OpenSpec.ofChange fnExactLaunchSpec)

/-- ITS FALSE NEIGHBOUR: 'it returns false'. Refute it at one input. -/
def fnExactLaunchWrong : ChangeSpec := { name := "fnExactLaunch", fn := fun _ => fun
  | [d1, d2, d3] => { results := [.lit (.bool false)], args := [d1, d2, d3] }
  | _ => none }
def FnExactLaunchWrongFalsely : Prop := fnExactLaunchRow.holds Tryz.pinned (OpenSpec.ofChange fnExactLaunchWrong)

/-- 'laws.FnLaunchTwice': WHATEVER THE INPUT: true; the input reads as it did. -/
def fnLaunchTwiceSpec : ChangeSpec := { name := "fnLaunchTwice", fn := fun _ => fun
  | [d] => { results := [.lit (.bool true)], args := [d] }
  | _ => none }
def fnLaunchTwiceRow : OpenClaim := { program := "ytakeacndmnnbmaagreat", sum := "5def218558659a46aba9dac0f680d0544fa04b1b5dc6bad3b06e51f323160fb3", func := "loop.example/lanekernel/laws.FnLaunchTwice", spec := "fnLaunchTwice", unfollowed := true, recurses := true, apart := false }
def FnLaunchTwiceSaid : Prop := fnLaunchTwiceRow.holds Tryz.pinned (OpenSpec.ofChange fnLaunchTwiceSpec)

/-- ITS FALSE NEIGHBOUR: 'it returns false'. Refute it at one input. -/
def fnLaunchTwiceWrong : ChangeSpec := { name := "fnLaunchTwice", fn := fun _ => fun
  | [d] => { results := [.lit (.bool false)], args := [d] }
  | _ => none }
def FnLaunchTwiceWrongFalsely : Prop := fnLaunchTwiceRow.holds Tryz.pinned (OpenSpec.ofChange fnLaunchTwiceWrong)

/-- 'laws.FnLaunchNames': WHATEVER THE INPUT: true; the input reads as it did. -/
def fnLaunchNamesSpec : ChangeSpec := { name := "fnLaunchNames", fn := fun _ => fun
  | [d1, d2] => { results := [.lit (.bool true)], args := [d1, d2] }
  | _ => none }
def fnLaunchNamesRow : OpenClaim := { program := "ytakeacndmnnbmaagreat", sum := "5def218558659a46aba9dac0f680d0544fa04b1b5dc6bad3b06e51f323160fb3", func := "loop.example/lanekernel/laws.FnLaunchNames", spec := "fnLaunchNames", unfollowed := true, recurses := true, apart := false }
def FnLaunchNamesSaid : Prop := fnLaunchNamesRow.holds Tryz.pinned (OpenSpec.ofChange fnLaunchNamesSpec)

/-- ITS FALSE NEIGHBOUR: 'it returns false'. Refute it at one input. -/
def fnLaunchNamesWrong : ChangeSpec := { name := "fnLaunchNames", fn := fun _ => fun
  | [d1, d2] => { results := [.lit (.bool false)], args := [d1, d2] }
  | _ => none }
def FnLaunchNamesWrongFalsely : Prop := fnLaunchNamesRow.holds Tryz.pinned (OpenSpec.ofChange fnLaunchNamesWrong)

/-- 'laws.FnLaunchPair': WHATEVER THE INPUT: true; the input reads as it did. -/
def fnLaunchPairSpec : ChangeSpec := { name := "fnLaunchPair", fn := fun _ => fun
  | [d1, d2] => { results := [.lit (.bool true)], args := [d1, d2] }
  | _ => none }
def fnLaunchPairRow : OpenClaim := { program := "ytakeacndmnnbmaagreat", sum := "5def218558659a46aba9dac0f680d0544fa04b1b5dc6bad3b06e51f323160fb3", func := "loop.example/lanekernel/laws.FnLaunchPair", spec := "fnLaunchPair", unfollowed := true, recurses := true, apart := false }
def FnLaunchPairSaid : Prop := fnLaunchPairRow.holds Tryz.pinned (OpenSpec.ofChange fnLaunchPairSpec)

/-- ITS FALSE NEIGHBOUR: 'it returns false'. Refute it at one input. -/
def fnLaunchPairWrong : ChangeSpec := { name := "fnLaunchPair", fn := fun _ => fun
  | [d1, d2] => { results := [.lit (.bool false)], args := [d1, d2] }
  | _ => none }
def FnLaunchPairWrongFalsely : Prop := fnLaunchPairRow.holds Tryz.pinned (OpenSpec.ofChange fnLaunchPairWrong)

/-- 'laws.FnLaunchChain': WHATEVER THE INPUT: true; the input reads as it did. -/
def fnLaunchChainSpec : ChangeSpec := { name := "fnLaunchChain", fn := fun _ => fun
  | [d] => { results := [.lit (.bool true)], args := [d] }
  | _ => none }
def fnLaunchChainRow : OpenClaim := { program := "ytakeacndmnnbmaagreat", sum := "5def218558659a46aba9dac0f680d0544fa04b1b5dc6bad3b06e51f323160fb3", func := "loop.example/lanekernel/laws.FnLaunchChain", spec := "fnLaunchChain", unfollowed := true, recurses := true, apart := false }
def FnLaunchChainSaid : Prop := fnLaunchChainRow.holds Tryz.pinned (OpenSpec.ofChange fnLaunchChainSpec)

/-- ITS FALSE NEIGHBOUR: 'it returns false'. Refute it at one input. -/
def fnLaunchChainWrong : ChangeSpec := { name := "fnLaunchChain", fn := fun _ => fun
  | [d] => { results := [.lit (.bool false)], args := [d] }
  | _ => none }
def FnLaunchChainWrongFalsely : Prop := fnLaunchChainRow.holds Tryz.pinned (OpenSpec.ofChange fnLaunchChainWrong)

/-- 'laws.FnExactLaunchChain': WHATEVER THE INPUT: true; the input reads as it did. -/
def fnExactLaunchChainSpec : ChangeSpec := { name := "fnExactLaunchChain", fn := fun _ => fun
  | [d1, d2, d3] => { results := [.lit (.bool true)], args := [d1, d2, d3] }
  | _ => none }
def fnExactLaunchChainRow : OpenClaim := { program := "ytakeacndmnnbmaagreat", sum := "5def218558659a46aba9dac0f680d0544fa04b1b5dc6bad3b06e51f323160fb3", func := "loop.example/lanekernel/laws.FnExactLaunchChain", spec := "fnExactLaunchChain", unfollowed := true, recurses := true, apart := false }
def FnExactLaunchChainSaid : Prop := fnExactLaunchChainRow.holds Tryz.pinned (OpenSpec.ofChange fnExactLaunchChainSpec)

/-- ITS FALSE NEIGHBOUR: 'it returns false'. Refute it at one input. -/
def fnExactLaunchChainWrong : ChangeSpec := { name := "fnExactLaunchChain", fn := fun _ => fun
  | [d1, d2, d3] => { results := [.lit (.bool false)], args := [d1, d2, d3] }
  | _ => none }
def FnExactLaunchChainWrongFalsely : Prop := fnExactLaunchChainRow.holds Tryz.pinned (OpenSpec.ofChange fnExactLaunchChainWrong)

/- THE SECOND FORM. 'bulk': how many values and letters a reading holds, each counted each time it is reached (what is shared counts as often as it is met; a slice's spare places count too). A statement '..UptoSaid' is the law's where the arguments, and the package variables that the reading takes, are together of bulk at most 1048576: NARROWER than '..Said'. Prove '..Said' where nothing that the law and all that it calls make is longer than what came in: it says more and counts as full. Else prove '..UptoSaid'. A law counts once. -/
mutual
def uptoBulk {H : Type} : DataW H → Nat
  | .lit (.string bytes) => bytes.length + 1
  | .lit _ => 1
  | .nil => 1
  | .ptr d => uptoBulk d + 1
  | .slice elems spare => uptoBulkAll elems + uptoBulkAll spare + 1
  | .agg parts => uptoBulkAll parts + 1
  | .iface _ d => uptoBulk d + 1
  | .map entries => uptoBulkEntries entries + 1
  | .held _ => 1
def uptoBulkAll {H : Type} : List (DataW H) → Nat
  | [] => 0
  | d :: r => uptoBulk d + uptoBulkAll r
def uptoBulkEntries {H : Type} : List (Lit × DataW H) → Nat
  | [] => 0
  | x :: r => uptoBulkEntry x + uptoBulkEntries r
def uptoBulkEntry {H : Type} : Lit × DataW H → Nat
  | (.string bytes, d) => bytes.length + uptoBulk d + 1
  | (_, d) => uptoBulk d + 1
 end
def uptoSmall : (H : Type) → List (DataW H) → Bool := fun _ ds => decide (uptoBulkAll ds ≤ 1048576)
def OpenSpec.upto (s : _root_.Go.ChangeSpec) : _root_.Go.OpenSpec := { _root_.Go.OpenSpec.ofChange s with cond := some uptoSmall }

/-- 'laws.FnExactLaunch', WHERE WHAT IT READS IS OF BULK AT MOST 1048576: true; the input reads as it did. -/
def fnExactLaunchUptoRow : OpenClaim := { program := "ytakeacndmnnbmaagreat", sum := "5def218558659a46aba9dac0f680d0544fa04b1b5dc6bad3b06e51f323160fb3", func := "loop.example/lanekernel/laws.FnExactLaunch", spec := "fnExactLaunch", unfollowed := true, recurses := true, apart := false, narrowed := true }
def FnExactLaunchUptoSaid : Prop := fnExactLaunchUptoRow.holds Tryz.pinned (OpenSpec.upto fnExactLaunchSpec)

/-- 'laws.FnLaunchTwice', WHERE WHAT IT READS IS OF BULK AT MOST 1048576: true; the input reads as it did. -/
def fnLaunchTwiceUptoRow : OpenClaim := { program := "ytakeacndmnnbmaagreat", sum := "5def218558659a46aba9dac0f680d0544fa04b1b5dc6bad3b06e51f323160fb3", func := "loop.example/lanekernel/laws.FnLaunchTwice", spec := "fnLaunchTwice", unfollowed := true, recurses := true, apart := false, narrowed := true }
def FnLaunchTwiceUptoSaid : Prop := fnLaunchTwiceUptoRow.holds Tryz.pinned (OpenSpec.upto fnLaunchTwiceSpec)

/-- 'laws.FnLaunchNames', WHERE WHAT IT READS IS OF BULK AT MOST 1048576: true; the input reads as it did. -/
def fnLaunchNamesUptoRow : OpenClaim := { program := "ytakeacndmnnbmaagreat", sum := "5def218558659a46aba9dac0f680d0544fa04b1b5dc6bad3b06e51f323160fb3", func := "loop.example/lanekernel/laws.FnLaunchNames", spec := "fnLaunchNames", unfollowed := true, recurses := true, apart := false, narrowed := true }
def FnLaunchNamesUptoSaid : Prop := fnLaunchNamesUptoRow.holds Tryz.pinned (OpenSpec.upto fnLaunchNamesSpec)

/-- 'laws.FnLaunchPair', WHERE WHAT IT READS IS OF BULK AT MOST 1048576: true; the input reads as it did. -/
def fnLaunchPairUptoRow : OpenClaim := { program := "ytakeacndmnnbmaagreat", sum := "5def218558659a46aba9dac0f680d0544fa04b1b5dc6bad3b06e51f323160fb3", func := "loop.example/lanekernel/laws.FnLaunchPair", spec := "fnLaunchPair", unfollowed := true, recurses := true, apart := false, narrowed := true }
def FnLaunchPairUptoSaid : Prop := fnLaunchPairUptoRow.holds Tryz.pinned (OpenSpec.upto fnLaunchPairSpec)

/-- 'laws.FnLaunchChain', WHERE WHAT IT READS IS OF BULK AT MOST 1048576: true; the input reads as it did. -/
def fnLaunchChainUptoRow : OpenClaim := { program := "ytakeacndmnnbmaagreat", sum := "5def218558659a46aba9dac0f680d0544fa04b1b5dc6bad3b06e51f323160fb3", func := "loop.example/lanekernel/laws.FnLaunchChain", spec := "fnLaunchChain", unfollowed := true, recurses := true, apart := false, narrowed := true }
def FnLaunchChainUptoSaid : Prop := fnLaunchChainUptoRow.holds Tryz.pinned (OpenSpec.upto fnLaunchChainSpec)

/-- 'laws.FnExactLaunchChain', WHERE WHAT IT READS IS OF BULK AT MOST 1048576: true; the input reads as it did. -/
def fnExactLaunchChainUptoRow : OpenClaim := { program := "ytakeacndmnnbmaagreat", sum := "5def218558659a46aba9dac0f680d0544fa04b1b5dc6bad3b06e51f323160fb3", func := "loop.example/lanekernel/laws.FnExactLaunchChain", spec := "fnExactLaunchChain", unfollowed := true, recurses := true, apart := false, narrowed := true }
def FnExactLaunchChainUptoSaid : Prop := fnExactLaunchChainUptoRow.holds Tryz.pinned (OpenSpec.upto fnExactLaunchChainSpec)

end Rows
end Go.Proofs.YtakeacndmnnbmaaGreat
