/- Contracts of the small functions on numbers and instructions. -/
import Derived.Test.YtfpecplpammhiaaMem
namespace Go.Proofs.Ytfpecplpammhiaa
open Go.RowKit

theorem within_c (x lo hi : Int) (w : World) :
    Calls Try.prog 68 #[.int .i64 x, .int .i64 lo, .int .i64 hi] w fun e w' => e = .returned (.bool (inR x lo hi)) ∧ w = w' := by
  by_cases h : lo ≤ x <;> by_cases h2 : x ≤ hi
  all_goals
    go_enter Try.func68, Try.ntmps68
    go_wp2
    go_ret
    exact ⟨by simp [inR, h, h2], rfl⟩

theorem l1In_c (x lo hi : Int) (w : World) :
    Calls Try.prog 49 #[.int .i64 x, .int .i64 lo, .int .i64 hi] w fun e w' => e = .returned (.bool (inR x lo hi)) ∧ w = w' := by
  by_cases h : lo ≤ x <;> by_cases h2 : x ≤ hi
  all_goals
    go_enter Try.func49, Try.ntmps49
    go_wp2
    go_ret
    exact ⟨by simp [inR, h, h2], rfl⟩

theorem isWord_c (x : Int) (w : World) :
    Calls Try.prog 86 #[.int .i64 x] w fun e w' => e = .returned (.bool (inR x 0 255)) ∧ w = w' := by
  go_enter Try.func86, Try.ntmps86
  go_wp2_with (go_at_call 68; refine (within_c _ _ _ _).mono ?_; rintro e w' ⟨rfl, rfl⟩)
  go_ret
  exact ⟨rfl, rfl⟩

theorem isReg_c (x : Int) (w : World) :
    Calls Try.prog 59 #[.int .i64 x] w fun e w' => e = .returned (.bool (inR x 0 3)) ∧ w = w' := by
  go_enter Try.func59, Try.ntmps59
  go_wp2_with (go_at_call 68; refine (within_c _ _ _ _).mono ?_; rintro e w' ⟨rfl, rfl⟩)
  go_ret
  exact ⟨rfl, rfl⟩

theorem l2Word_c (x : Int) (w : World) :
    Calls Try.prog 85 #[.int .i64 x] w fun e w' => e = .returned (.bool (inR x 0 255)) ∧ w = w' := by
  go_enter Try.func85, Try.ntmps85
  go_wp2_with (go_at_call 49; refine (l1In_c _ _ _ _).mono ?_; rintro e w' ⟨rfl, rfl⟩)
  go_ret
  exact ⟨rfl, rfl⟩

theorem registers_c (o : Int) (w : World) :
    Calls Try.prog 77 #[.int .i64 o] w fun e w' => e = .returned (.int .i64 (regsN o)) ∧ w = w' := by
  go_enter Try.func77, Try.ntmps77
  go_wp2
  all_goals go_ret
  all_goals refine ⟨reti ?_, rfl⟩
  all_goals (unfold regsN; simp_all)
end Go.Proofs.Ytfpecplpammhiaa
