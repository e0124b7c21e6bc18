/- Contracts of GroupsMany. -/
import Derived.Test.YtcpjhlkcfohkiaaSmall
import Derived.RowKit3
namespace Go.Proofs.Ytcpjhlkcfohkiaa
open Go.RowKit
set_option linter.unusedVariables false
set_option linter.unusedSimpArgs false

def grMany (l s : Int) : Int := if inR l 1 8 && inR s 1 8 then (l + s - 1) / s else -1

theorem sGroupsMany_c (l s : Int) (w : World) :
    Calls Try.prog 24 #[.int .i64 l, .int .i64 s] w fun e w' => e = .returned (.int .i64 (grMany l s)) ∧ w = w' := by
  cases h : inR l 1 8 <;> cases h2 : inR s 1 8
  case true.true =>
    have hb : 1 ≤ l ∧ l ≤ 8 ∧ 1 ≤ s ∧ s ≤ 8 := by rw [inR_iff] at h h2; omega
    obtain ⟨b1, b2, b3, b4⟩ := hb
    go_enter Try.func24, Try.ntmps24
    go_wp2_with (go_at_call 76; refine (l1In_c _ _ _ _).mono ?_; rintro e w' ⟨rfl, rfl⟩)
    go_ret
    exact ⟨by simp [grMany, h, h2], rfl⟩
  all_goals
    go_enter Try.func24, Try.ntmps24
    go_wp2_with (go_at_call 76; refine (l1In_c _ _ _ _).mono ?_; rintro e w' ⟨rfl, rfl⟩)
    go_ret
    exact ⟨by simp [grMany, h, h2], rfl⟩

theorem iGroupsMany_c (l s : Int) (w : World) :
    Calls Try.prog 23 #[.int .i64 l, .int .i64 s] w fun e w' => e = .returned (.int .i64 (grMany l s)) ∧ w = w' := by
  cases h : inR l 1 8 <;> cases h2 : inR s 1 8
  case true.true =>
    have hb : 1 ≤ l ∧ l ≤ 8 ∧ 1 ≤ s ∧ s ≤ 8 := by rw [inR_iff] at h h2; omega
    obtain ⟨b1, b2, b3, b4⟩ := hb
    go_enter Try.func23, Try.ntmps23
    go_wp2_with (go_at_call 75; refine (isLanes_c _ _).mono ?_; rintro e w' ⟨rfl, rfl⟩)
    go_ret
    exact ⟨by simp [grMany, h, h2], rfl⟩
  all_goals
    go_enter Try.func23, Try.ntmps23
    go_wp2_with (go_at_call 75; refine (isLanes_c _ _).mono ?_; rintro e w' ⟨rfl, rfl⟩)
    go_ret
    exact ⟨by simp [grMany, h, h2], rfl⟩