/- Contracts of the small functions on numbers and instructions. -/
import Derived.Test.YtcpjhlkcfohkiaaMem
namespace Go.Proofs.Ytcpjhlkcfohkiaa
open Go.RowKit
set_option linter.unusedVariables false
set_option linter.unusedSimpArgs false

theorem within_c (x lo hi : Int) (w : World) :
    Calls Try.prog 77 #[.int .i64 x, .int .i64 lo, .int .i64 hi] w fun e w' => e = .returned (.bool (inR x lo hi)) ∧ w = w' := by
  by_cases h : lo ≤ x <;> by_cases h2 : x ≤ hi
  all_goals
    go_enter Try.func77, Try.ntmps77
    go_wp2
    go_ret
    exact ⟨by simp [inR, h, h2], rfl⟩

theorem l1In_c (x lo hi : Int) (w : World) :
    Calls Try.prog 76 #[.int .i64 x, .int .i64 lo, .int .i64 hi] w fun e w' => e = .returned (.bool (inR x lo hi)) ∧ w = w' := by
  by_cases h : lo ≤ x <;> by_cases h2 : x ≤ hi
  all_goals
    go_enter Try.func76, Try.ntmps76
    go_wp2
    go_ret
    exact ⟨by simp [inR, h, h2], rfl⟩

theorem isLanes_c (x : Int) (w : World) :
    Calls Try.prog 75 #[.int .i64 x] w fun e w' => e = .returned (.bool (inR x 1 8)) ∧ w = w' := by
  go_enter Try.func75, Try.ntmps75
  go_wp2_with (go_at_call 77; refine (within_c _ _ _ _).mono ?_; rintro e w' ⟨rfl, rfl⟩)
  go_ret
  exact ⟨rfl, rfl⟩

theorem isWord_c (x : Int) (w : World) :
    Calls Try.prog 117 #[.int .i64 x] w fun e w' => e = .returned (.bool (inR x 0 255)) ∧ w = w' := by
  go_enter Try.func117, Try.ntmps117
  go_wp2_with (go_at_call 77; refine (within_c _ _ _ _).mono ?_; rintro e w' ⟨rfl, rfl⟩)
  go_ret
  exact ⟨rfl, rfl⟩

theorem isReg_c (x : Int) (w : World) :
    Calls Try.prog 84 #[.int .i64 x] w fun e w' => e = .returned (.bool (inR x 0 3)) ∧ w = w' := by
  go_enter Try.func84, Try.ntmps84
  go_wp2_with (go_at_call 77; refine (within_c _ _ _ _).mono ?_; rintro e w' ⟨rfl, rfl⟩)
  go_ret
  exact ⟨rfl, rfl⟩

theorem l2Word_c (x : Int) (w : World) :
    Calls Try.prog 110 #[.int .i64 x] w fun e w' => e = .returned (.bool (inR x 0 255)) ∧ w = w' := by
  go_enter Try.func110, Try.ntmps110
  go_wp2_with (go_at_call 76; refine (l1In_c _ _ _ _).mono ?_; rintro e w' ⟨rfl, rfl⟩)
  go_ret
  exact ⟨rfl, rfl⟩

theorem registers_c (o : Int) (w : World) :
    Calls Try.prog 109 #[.int .i64 o] w fun e w' => e = .returned (.int .i64 (regsN o)) ∧ w = w' := by
  go_enter Try.func109, Try.ntmps109
  go_wp2
  all_goals go_ret
  all_goals refine ⟨reti ?_, rfl⟩
  all_goals (unfold regsN; simp_all)
end Go.Proofs.Ytcpjhlkcfohkiaa
