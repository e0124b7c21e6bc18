/- Contracts of the small functions on numbers and instructions. -/
import Derived.Test.YtjefblbcgjnipaaMem
namespace Go.Proofs.Ytjefblbcgjnipaa
open Go.RowKit

theorem within_c (x lo hi : Int) (w : World) :
    Calls Try.prog 30 #[.int .i64 x, .int .i64 lo, .int .i64 hi] w fun e w' => e = .returned (.bool (inR x lo hi)) ∧ w = w' := by
  by_cases h : lo ≤ x <;> by_cases h2 : x ≤ hi
  all_goals
    go_enter Try.func30, Try.ntmps30
    go_wp2
    go_ret
    exact ⟨by simp [inR, h, h2], rfl⟩

theorem l1In_c (x lo hi : Int) (w : World) :
    Calls Try.prog 28 #[.int .i64 x, .int .i64 lo, .int .i64 hi] w fun e w' => e = .returned (.bool (inR x lo hi)) ∧ w = w' := by
  by_cases h : lo ≤ x <;> by_cases h2 : x ≤ hi
  all_goals
    go_enter Try.func28, Try.ntmps28
    go_wp2
    go_ret
    exact ⟨by simp [inR, h, h2], rfl⟩

theorem isLanes_c (x : Int) (w : World) :
    Calls Try.prog 29 #[.int .i64 x] w fun e w' => e = .returned (.bool (inR x 1 8)) ∧ w = w' := by
  go_enter Try.func29, Try.ntmps29
  go_wp2_with (go_at_call 30; refine (within_c _ _ _ _).mono ?_; rintro e w' ⟨rfl, rfl⟩)
  go_ret
  exact ⟨rfl, rfl⟩
theorem isWord_c (x : Int) (w : World) :
    Calls Try.prog 46 #[.int .i64 x] w fun e w' => e = .returned (.bool (inR x 0 255)) ∧ w = w' := by
  go_enter Try.func46, Try.ntmps46
  go_wp2_with (go_at_call 30; refine (within_c _ _ _ _).mono ?_; rintro e w' ⟨rfl, rfl⟩)
  go_ret
  exact ⟨rfl, rfl⟩
theorem isReg_c (x : Int) (w : World) :
    Calls Try.prog 45 #[.int .i64 x] w fun e w' => e = .returned (.bool (inR x 0 3)) ∧ w = w' := by
  go_enter Try.func45, Try.ntmps45
  go_wp2_with (go_at_call 30; refine (within_c _ _ _ _).mono ?_; rintro e w' ⟨rfl, rfl⟩)
  go_ret
  exact ⟨rfl, rfl⟩
theorem l2Word_c (x : Int) (w : World) :
    Calls Try.prog 43 #[.int .i64 x] w fun e w' => e = .returned (.bool (inR x 0 255)) ∧ w = w' := by
  go_enter Try.func43, Try.ntmps43
  go_wp2_with (go_at_call 28; refine (l1In_c _ _ _ _).mono ?_; rintro e w' ⟨rfl, rfl⟩)
  go_ret
  exact ⟨rfl, rfl⟩

theorem registers_c (o : Int) (w : World) :
    Calls Try.prog 44 #[.int .i64 o] w fun e w' => e = .returned (.int .i64 (regsN o)) ∧ w = w' := by
  go_enter Try.func44, Try.ntmps44
  go_wp2
  all_goals go_ret
  all_goals refine ⟨reti ?_, rfl⟩
  all_goals (unfold regsN; simp_all)
end Go.Proofs.Ytjefblbcgjnipaa
