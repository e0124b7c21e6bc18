/-
  FnExactSameMemory: the law returns true for every input, and each argument reads as it did. No condition.
-/
import Derived.Test.YtelbfeidpcojmaaRows
import Derived.WalkKit
import Derived.Test.YtelbfeidpcojmaaRg19
import Derived.Test.YtelbfeidpcojmaaRg20
import Derived.ProofKit
import Derived.OpenShut
namespace Go.Proofs.Ytelbfeidpcojmaa.fnExactSameMemory
open Go.ChangeShapes Go.WideShapes Go.ChangeAt Go.RowKit
set_option linter.unusedVariables false

theorem own : ownKnob Try.prog.godebug = none := by kernel_rfl
theorem laidOut : laidOutB Try.prog = true := by kernel_rfl

set_option maxRecDepth 100000 in
theorem lifted (os : Os) (started : os.Started) (H : Type) (enc : TypeId × Value → H) :
    ReturnsInHanded {} Try.checked os 4 .any (Rows.fnExactSameMemorySpec.pre6 enc Try.prog Try.f4 Rows.fnExactSameMemoryRow.domain false) (Rows.fnExactSameMemorySpec.post enc Try.prog Try.f4 false true false false) := by
  refine returnsInHanded_of_change (C := Try.checked) own started (by kernel_rfl) Try.func4
    (ChangeSpec.witness6 (enc := enc) (C := Try.checked) false ⟨#[], #[.slice none 0 0, .int .i64 0, .slice none 0 0, .slice none 0 0], []⟩ 8 (by kernel_rfl) (by kernel_rfl) (by kernel_rfl) (by kernel_rfl)) ?_
  intro W base args ds gs before hval0 hW hcnd _
  have hval : ∀ (j : Nat) t v, Try.f4.params[j]? = some t → args[j]? = some v → Value.okWide Try.prog W .any base t v := hval0
  have hW' := hW
  obtain ⟨p, q, hA0, hV, rfl, hfz, hnd⟩ := hW
  have hA : DataW.TrodAll enc Try.prog W 0 (fun _ => true) true Try.f4.params.toList args.toList ds p := hA0
  rw [Try.params4] at hA hval
  have hAll := hA
  obtain ⟨v0, vs0, d0, ds0, p0, q0, hargs, rfl, rfl, h0, r0⟩ := trodAll_cons hA
  obtain ⟨v1, vs1, d1, ds1, p1, q1, rfl, rfl, rfl, h1, r1⟩ := trodAll_cons r0
  obtain ⟨v2, vs2, d2, ds2, p2, q2, rfl, rfl, rfl, h2, r2⟩ := trodAll_cons r1
  obtain ⟨v3, vs3, d3, ds3, p3, q3, rfl, rfl, rfl, h3, r3⟩ := trodAll_cons r2
  obtain ⟨rfl, rfl, rfl⟩ := trodAll_nil r3
  obtain rfl : args = #[v0, v1, v2, v3] := by cases args; simp_all
  obtain ⟨rfl, rfl⟩ := trodVars_none hV
  obtain ⟨A0, c0, l0, rfl, R0, L0⟩ := open_codes Try.underlying22 Try.underlying70 (by kernel_rfl) Try.underlying3 Try.underlying3 Try.underlying3 Try.underlying3 ⟨rfl, by kernel_rfl⟩ ⟨rfl, by kernel_rfl⟩ ⟨rfl, by kernel_rfl⟩ ⟨rfl, by kernel_rfl⟩ (hval 0 22 v0 rfl rfl) h0
  obtain ⟨a1, rfl, rfl, rfl, w1⟩ := open_int Try.underlying3 (hval 1 3 v1 rfl rfl) h1
  obtain ⟨A2, c2, l2, rfl, R2, L2⟩ := open_row1 Try.underlying23 Try.underlying3 (by kernel_rfl) (hval 2 23 v2 rfl rfl) h2
  obtain ⟨A3, c3, l3, As3, cs3, rfl, R3, L3, M3⟩ := open_rows2 Try.underlying34 Try.underlying23 (by kernel_rfl) Try.underlying3 (by kernel_rfl) (hval 3 34 v3 rfl rfl) h3
  clear hA0 hval0
  simp only [List.append_nil] at hW'
  refine (fnExactSameMemory_c W A0 c0 l0 R0 L0 a1 w1 A2 c2 l2 R2 L2 A3 c3 l3 As3 cs3 R3 L3 M3).mono fun e W' ⟨he, hb⟩ => ?_
  subst he
  exact ⟨_, rfl, _, _, _, [], _, [], hW', trodAll_cons_mk (shut_bool Try.underlying4 _) trodAll_mk0, below_trodAll laidOut hb _ _ _ _ (by kernel_rfl) hAll (fun x hx => hW'.lt x (by simpa using hx)), rfl, hb.frame _, fun h => by cases h⟩

theorem over : Rows.fnExactSameMemoryRow.holds Try.pinned (OpenSpec.ofChange Rows.fnExactSameMemorySpec) :=
  OpenClaim.holds_of_wide 4 Try.f4 rfl rfl rfl rfl rfl rfl rfl ⟨rfl, rfl, rfl, rfl, rfl⟩ rfl rfl rfl rfl rfl (by kernel_rfl) Try.func4 (by kernel_rfl)
    (of_decide_eq_true (by kernel_rfl)) (by unfold Func.isWrapper; first | (rw [if_pos (by decide +kernel)]; kernel_rfl) | (rw [if_neg (by decide +kernel)]; exact ⟨rfl, rfl⟩))
    (fun os started H enc _ => lifted os started H enc)

/-- THE STATEMENT -/
theorem proved : Rows.FnExactSameMemorySaid :=
  over
#print axioms proved
end Go.Proofs.Ytelbfeidpcojmaa.fnExactSameMemory
