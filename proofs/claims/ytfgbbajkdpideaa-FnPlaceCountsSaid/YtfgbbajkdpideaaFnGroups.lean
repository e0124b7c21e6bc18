/- FnGroupsMany, FnGroupMask: the walks of the laws. -/
import Derived.Test.YtfgbbajkdpideaaDraw
import Derived.Test.YtfgbbajkdpideaaBits
namespace Go.Proofs.Ytfgbbajkdpideaa
open Go.RowKit
set_option linter.unusedVariables false
set_option linter.unusedSimpArgs false

theorem iMaskAll2_c (n : Int) (w : World) :
    Calls Try.prog 25 #[.int .i64 n] w fun e w' => e = .returned (.int .i64 (maskAllI n)) ∧ w = w' := by
  cases h : inR n 1 8 with
  | false =>
    go_enter Try.func25, Try.ntmps25
    go_wp2_with (go_at_call 42; refine (isLanes_c _ _).mono ?_; rintro e w' ⟨rfl, rfl⟩)
    go_ret
    exact ⟨reti (by simp [maskAllI, h]), rfl⟩
  | true =>
    have h' := inR_iff.1 h
    have h8 : n = 1 ∨ n = 2 ∨ n = 3 ∨ n = 4 ∨ n = 5 ∨ n = 6 ∨ n = 7 ∨ n = 8 := by omega
    clear h h'
    rcases h8 with rfl | rfl | rfl | rfl | rfl | rfl | rfl | rfl
    all_goals
      go_enter Try.func25, Try.ntmps25
      go_wp2_with (go_at_call 42; refine (isLanes_c _ _).mono ?_; rintro e w' ⟨rfl, rfl⟩)
      go_ret
      exact ⟨reti (by decide), rfl⟩
theorem alive_c (w : World) : Calls Try.prog 8 #[] w fun e w' => e = .returned (.bool true) ∧ w = w' := by
  have h7 : maskAllI 3 = 7 := by decide
  go_enter Try.func8, Try.ntmps8
  go_wp2_with (go_at_call 25; refine (iMaskAll2_c _ _).mono ?_; rintro e w' ⟨rfl, rfl⟩)
  go_ret
  exact ⟨rfl, rfl⟩

theorem grMany_law {a b : Int} (h : ¬ grMany a b < 0) : a ≤ grMany a b * b ∧ (grMany a b - 1) * b < a ∧ grMany a 1 = a ∧ 1 ≤ a ∧ a ≤ 8 ∧ 1 ≤ b ∧ b ≤ 8 ∧ 1 ≤ grMany a b ∧ grMany a b ≤ 8 ∧ -64 ≤ (grMany a b - 1) * b ∧ grMany a b * b ≤ 64 := by
  cases h1 : inR a 1 8 with
  | false => exact absurd (by simp [grMany, h1]) h
  | true =>
    cases h2 : inR b 1 8 with
    | false => exact absurd (by simp [grMany, h2]) h
    | true =>
      have h1' := inR_iff.1 h1
      have h2' := inR_iff.1 h2
      have ha : a = 1 ∨ a = 2 ∨ a = 3 ∨ a = 4 ∨ a = 5 ∨ a = 6 ∨ a = 7 ∨ a = 8 := by omega
      have hb : b = 1 ∨ b = 2 ∨ b = 3 ∨ b = 4 ∨ b = 5 ∨ b = 6 ∨ b = 7 ∨ b = 8 := by omega
      clear h h1 h2 h1' h2'
      rcases ha with rfl | rfl | rfl | rfl | rfl | rfl | rfl | rfl <;> rcases hb with rfl | rfl | rfl | rfl | rfl | rfl | rfl | rfl <;> decide
theorem grMany_neg {a b : Int} (h : grMany a b < 0) : grMany a b = -1 := by
  have := (grMany_bd a b).1
  omega

def allTo (a b : Nat) : Nat → Nat
  | 0 => 0
  | j + 1 => allTo a b j ||| gMask a b j
theorem gMask_law : ∀ a b : Fin 9, 1 ≤ a.val → 1 ≤ b.val → ∀ j : Fin 9, (j.val : Int) < grMany a.val b.val → 1 ≤ gMask a.val b.val j.val ∧ gMask a.val b.val j.val < 256 ∧ allTo a.val b.val j.val < 256 ∧ allTo a.val b.val j.val &&& gMask a.val b.val j.val = 0 := by decide +kernel
theorem gMask_all : ∀ a b : Fin 9, 1 ≤ a.val → 1 ≤ b.val → ((allTo a.val b.val (grMany a.val b.val).toNat : Nat) : Int) = maskAllI a.val := by decide +kernel
theorem grMask_neg {a b k : Int} (h : grMask a b k < 0) : grMask a b k = -1 := by
  unfold grMask at h ⊢
  split
  · rename_i h2
    rw [if_pos h2] at h
    omega
  · rfl
theorem grMask_pos {a b k : Int} (h : ¬ grMask a b k < 0) : ∃ x y : Nat, a = x ∧ b = y ∧ 1 ≤ x ∧ x ≤ 8 ∧ 1 ≤ y ∧ y ≤ 8 := by
  have h2 : inR k 0 (grMany a b - 1) = true := by
    cases h2 : inR k 0 (grMany a b - 1) with
    | true => rfl
    | false => exact absurd (by simp [grMask, h2]) h
  have h3 : ¬ grMany a b < 0 := by have := inR_iff.1 h2; omega
  obtain ⟨-, -, -, h4, h5, h6, h7, -⟩ := grMany_law h3
  exact ⟨a.toNat, b.toNat, by omega, by omega, by omega, by omega, by omega, by omega⟩

def GMRel (a b : Nat) (w : World) (av kv : Value) (wr : World) : Prop := ∃ j : Nat, (j : Int) ≤ grMany a b ∧ kv = .int .i64 j ∧ av = .int .i64 (allTo a b j) ∧ wr = w