/- Contracts of GroupsMany. -/
import Derived.Test.YtjefblbcgjnipaaSmall
import Derived.RowKit3
namespace Go.Proofs.Ytjefblbcgjnipaa
open Go.RowKit

def grMany (l s : Int) : Int := if inR l 1 8 && inR s 1 8 then (l + s - 1) / s else -1

theorem sGroupsMany_c (l s : Int) (w : World) :
    Calls Try.prog 9 #[.int .i64 l, .int .i64 s] w fun e w' => e = .returned (.int .i64 (grMany l s)) ∧ w = w' := by
  cases h : inR l 1 8 <;> cases h2 : inR s 1 8
  case true.true =>
    have hb : 1 ≤ l ∧ l ≤ 8 ∧ 1 ≤ s ∧ s ≤ 8 := by rw [inR_iff] at h h2; omega
    obtain ⟨b1, b2, b3, b4⟩ := hb
    go_enter Try.func9, Try.ntmps9
    go_wp2_with (go_at_call 28; refine (l1In_c _ _ _ _).mono ?_; rintro e w' ⟨rfl, rfl⟩)
    go_ret
    exact ⟨by simp [grMany, h, h2], rfl⟩
  all_goals
    go_enter Try.func9, Try.ntmps9
    go_wp2_with (go_at_call 28; refine (l1In_c _ _ _ _).mono ?_; rintro e w' ⟨rfl, rfl⟩)
    go_ret
    exact ⟨by simp [grMany, h, h2], rfl⟩

theorem iGroupsMany_c (l s : Int) (w : World) :
    Calls Try.prog 10 #[.int .i64 l, .int .i64 s] w fun e w' => e = .returned (.int .i64 (grMany l s)) ∧ w = w' := by
  cases h : inR l 1 8 <;> cases h2 : inR s 1 8
  case true.true =>
    have hb : 1 ≤ l ∧ l ≤ 8 ∧ 1 ≤ s ∧ s ≤ 8 := by rw [inR_iff] at h h2; omega
    obtain ⟨b1, b2, b3, b4⟩ := hb
    go_enter Try.func10, Try.ntmps10
    go_wp2_with (go_at_call 29; refine (isLanes_c _ _).mono ?_; rintro e w' ⟨rfl, rfl⟩)
    go_ret
    exact ⟨by simp [grMany, h, h2], rfl⟩
  all_goals
    go_enter Try.func10, Try.ntmps10
    go_wp2_with (go_at_call 29; refine (isLanes_c _ _).mono ?_; rintro e w' ⟨rfl, rfl⟩)
    go_ret
    exact ⟨by simp [grMany, h, h2], rfl⟩

theorem fnExactGroupsMany_c (l s : Int) (w : World) :
    Calls Try.prog 3 #[.int .i64 l, .int .i64 s] w fun e w' => e = .returned (.bool true) ∧ Grown w w' := by
  have hne : (grMany l s != grMany l s) = false := by simp
  go_enter Try.func3, Try.ntmps3
  go_wp2_with (first | (go_at_call 9; refine (sGroupsMany_c _ _ _).mono ?_; rintro e w' ⟨rfl, rfl⟩) | (go_at_call 10; refine (iGroupsMany_c _ _ _).mono ?_; rintro e w' ⟨rfl, rfl⟩))
  go_ret
  exact ⟨rfl, Grown.refl _⟩
end Go.Proofs.Ytjefblbcgjnipaa
