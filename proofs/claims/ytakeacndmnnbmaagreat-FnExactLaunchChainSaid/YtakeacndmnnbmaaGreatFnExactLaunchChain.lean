/-
  FnExactLaunchChain: the law returns true for every input, and each argument reads as it did. No condition.
-/
import Derived.Test.YtakeacndmnnbmaaGreatRows
import Derived.WalkKit
import Derived.Test.YtakeacndmnnbmaaGreatExLaCh
import Derived.Test.YtakeacndmnnbmaaGreatOpen2
import Derived.Test.YtakeacndmnnbmaaGreatOpen
import Derived.ProofKit
import Derived.OpenShut
namespace Go.Proofs.YtakeacndmnnbmaaGreat.fnExactLaunchChain
open Go.ChangeShapes Go.WideShapes Go.ChangeAt Go.RowKit
set_option linter.unusedVariables false

theorem own : ownKnob Tryz.prog.godebug = none := by kernel_rfl
theorem laidOut : laidOutB Tryz.prog = true := by kernel_rfl

set_option maxRecDepth 100000 in
theorem lifted (os : Os) (started : os.Started) (H : Type) (enc : TypeId × Value → H) :
    ReturnsInHanded {} Tryz.checked os 8 .any (Rows.fnExactLaunchChainSpec.pre6 enc Tryz.prog Tryz.f8 Rows.fnExactLaunchChainRow.domain false) (Rows.fnExactLaunchChainSpec.post enc Tryz.prog Tryz.f8 false true false false) := by
  refine returnsInHanded_of_change (C := Tryz.checked) own started (by kernel_rfl) Tryz.func8
    (ChangeSpec.witness6 (enc := enc) (C := Tryz.checked) false ⟨#[], #[.slice none 0 0, .int .i64 0, .slice none 0 0], []⟩ 8 (by kernel_rfl) (by kernel_rfl) (by kernel_rfl) (by kernel_rfl)) ?_
  intro W base args ds gs before hval0 hW hcnd _
  have hval : ∀ (j : Nat) t v, Tryz.f8.params[j]? = some t → args[j]? = some v → Value.okWide Tryz.prog W .any base t v := hval0
  have hW' := hW
  obtain ⟨p, q, hA0, hV, rfl, hfz, hnd⟩ := hW
  have hA : DataW.TrodAll enc Tryz.prog W 0 (fun _ => true) true Tryz.f8.params.toList args.toList ds p := hA0
  rw [Tryz.params8] at hA hval
  have hAll := hA
  obtain ⟨v0, vs0, d0, ds0, p0, q0, hargs, rfl, rfl, h0, r0⟩ := trodAll_cons hA
  obtain ⟨v1, vs1, d1, ds1, p1, q1, rfl, rfl, rfl, h1, r1⟩ := trodAll_cons r0
  obtain ⟨v2, vs2, d2, ds2, p2, q2, rfl, rfl, rfl, h2, r2⟩ := trodAll_cons r1
  obtain ⟨rfl, rfl, rfl⟩ := trodAll_nil r2
  obtain rfl : args = #[v0, v1, v2] := by cases args; simp_all
  obtain ⟨rfl, rfl⟩ := trodVars_none hV
  obtain ⟨A0, c0, l0, As0, cs0, rfl, R0, L0, M0⟩ := open_codes2 Tryz.underlying47 Tryz.underlying22 (by kernel_rfl) Tryz.underlying59 (by kernel_rfl) Tryz.underlying3 Tryz.underlying3 Tryz.underlying3 Tryz.underlying3 ⟨rfl, by kernel_rfl⟩ ⟨rfl, by kernel_rfl⟩ ⟨rfl, by kernel_rfl⟩ ⟨rfl, by kernel_rfl⟩ (hval 0 47 v0 rfl rfl) h0
  obtain ⟨a1, rfl, rfl, rfl, w1⟩ := open_int Tryz.underlying3 (hval 1 3 v1 rfl rfl) h1
  obtain ⟨A2, c2, l2, rfl, R2, L2⟩ := open_row1 Tryz.underlying23 Tryz.underlying3 (by kernel_rfl) (hval 2 23 v2 rfl rfl) h2
  clear hA0 hval0
  simp only [List.append_nil] at hW'
  refine (fnExactLaunchChain_c W A0 c0 l0 As0 cs0 R0 L0 M0 a1 w1 A2 c2 l2 R2 L2).mono fun e W' ⟨he, hb⟩ => ?_
  subst he
  exact ⟨_, rfl, _, _, _, [], _, [], hW', trodAll_cons_mk (shut_bool Tryz.underlying4 _) trodAll_mk0, below_trodAll laidOut hb _ _ _ _ (by kernel_rfl) hAll (fun x hx => hW'.lt x (by simpa using hx)), rfl, hb.frame _, fun h => by cases h⟩

theorem over : Rows.fnExactLaunchChainRow.holds Tryz.pinned (OpenSpec.ofChange Rows.fnExactLaunchChainSpec) :=
  OpenClaim.holds_of_wide 8 Tryz.f8 rfl rfl rfl rfl rfl rfl rfl ⟨rfl, rfl, rfl, rfl, rfl⟩ rfl rfl rfl rfl rfl (by kernel_rfl) Tryz.func8 (by kernel_rfl)
    (of_decide_eq_true (by kernel_rfl)) (by unfold Func.isWrapper; first | (rw [if_pos (by decide +kernel)]; kernel_rfl) | (rw [if_neg (by decide +kernel)]; exact ⟨rfl, rfl⟩))
    (fun os started H enc _ => lifted os started H enc)

/-- THE STATEMENT -/
theorem proved : Rows.FnExactLaunchChainSaid :=
  over
#print axioms proved
end Go.Proofs.YtakeacndmnnbmaaGreat.fnExactLaunchChain
