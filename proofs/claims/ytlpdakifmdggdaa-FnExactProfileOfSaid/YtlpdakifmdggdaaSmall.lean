/- Contracts of the small functions on numbers and instructions. -/
import Derived.Test.YtlpdakifmdggdaaMem
namespace Go.Proofs.Ytlpdakifmdggdaa
open Go.RowKit
set_option linter.unusedVariables false
set_option linter.unusedSimpArgs false

theorem within_c (x lo hi : Int) (w : World) :
    Calls Try.prog 87 #[.int .i64 x, .int .i64 lo, .int .i64 hi] w fun e w' => e = .returned (.bool (inR x lo hi)) ∧ w = w' := by
  by_cases h : lo ≤ x <;> by_cases h2 : x ≤ hi
  all_goals
    go_enter Try.func87, Try.ntmps87
    go_wp2
    go_ret
    exact ⟨by simp [inR, h, h2], rfl⟩

theorem l1In_c (x lo hi : Int) (w : World) :
    Calls Try.prog 69 #[.int .i64 x, .int .i64 lo, .int .i64 hi] w fun e w' => e = .returned (.bool (inR x lo hi)) ∧ w = w' := by
  by_cases h : lo ≤ x <;> by_cases h2 : x ≤ hi
  all_goals
    go_enter Try.func69, Try.ntmps69
    go_wp2
    go_ret
    exact ⟨by simp [inR, h, h2], rfl⟩

theorem isLanes_c (x : Int) (w : World) :
    Calls Try.prog 50 #[.int .i64 x] w fun e w' => e = .returned (.bool (inR x 1 8)) ∧ w = w' := by
  go_enter Try.func50, Try.ntmps50
  go_wp2_with (go_at_call 87; refine (within_c _ _ _ _).mono ?_; rintro e w' ⟨rfl, rfl⟩)
  go_ret
  exact ⟨rfl, rfl⟩

theorem isWord_c (x : Int) (w : World) :
    Calls Try.prog 116 #[.int .i64 x] w fun e w' => e = .returned (.bool (inR x 0 255)) ∧ w = w' := by
  go_enter Try.func116, Try.ntmps116
  go_wp2_with (go_at_call 87; refine (within_c _ _ _ _).mono ?_; rintro e w' ⟨rfl, rfl⟩)
  go_ret
  exact ⟨rfl, rfl⟩

theorem isReg_c (x : Int) (w : World) :
    Calls Try.prog 127 #[.int .i64 x] w fun e w' => e = .returned (.bool (inR x 0 3)) ∧ w = w' := by
  go_enter Try.func127, Try.ntmps127
  go_wp2_with (go_at_call 87; refine (within_c _ _ _ _).mono ?_; rintro e w' ⟨rfl, rfl⟩)
  go_ret
  exact ⟨rfl, rfl⟩

theorem l2Word_c (x : Int) (w : World) :
    Calls Try.prog 104 #[.int .i64 x] w fun e w' => e = .returned (.bool (inR x 0 255)) ∧ w = w' := by
  go_enter Try.func104, Try.ntmps104
  go_wp2_with (go_at_call 69; refine (l1In_c _ _ _ _).mono ?_; rintro e w' ⟨rfl, rfl⟩)
  go_ret
  exact ⟨rfl, rfl⟩

theorem registers_c (o : Int) (w : World) :
    Calls Try.prog 126 #[.int .i64 o] w fun e w' => e = .returned (.int .i64 (regsN o)) ∧ w = w' := by
  go_enter Try.func126, Try.ntmps126
  go_wp2
  all_goals go_ret
  all_goals refine ⟨reti ?_, rfl⟩
  all_goals (unfold regsN; simp_all)
end Go.Proofs.Ytlpdakifmdggdaa
