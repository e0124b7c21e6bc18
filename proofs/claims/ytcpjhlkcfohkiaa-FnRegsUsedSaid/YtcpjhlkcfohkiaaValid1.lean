/- The reference's CodeValid. -/
import Derived.Test.YtcpjhlkcfohkiaaSmall
namespace Go.Proofs.Ytcpjhlkcfohkiaa
open Go.RowKit
set_option linter.unusedVariables false
set_option linter.unusedSimpArgs false

set_option maxRecDepth 100000 in
set_option maxHeartbeats 2000000 in
theorem sCodeValid_c (x : Cd) (w : World) :
    Calls Try.prog 87 #[x.val] w fun e w' => e = .returned (.bool (cvOk x)) ∧ Below w.heap.size w w' := by
  obtain ⟨o, a, b, c⟩ := x
  unfold Cd.val
  go_enter Try.func87, Try.ntmps87
  go_wp2_with (first | (go_at_call 76; refine (l1In_c _ _ _ _).mono ?_; rintro e w' ⟨rfl, rfl⟩) | (go_at_call 110; refine (l2Word_c _ _).mono ?_; rintro e w' ⟨rfl, rfl⟩))
  all_goals go_ret
  all_goals refine ⟨retb ?_, (Below.refl _ _).alloc (Nat.le_refl _) _⟩
  all_goals (unfold cvOk; simp_all; done)
end Go.Proofs.Ytcpjhlkcfohkiaa
