/- FnPickPlaces: the walk of the law. -/
import Derived.Test.YtcaibhjdahmjeaaSame
import Derived.Test.YtcaibhjdahmjeaaPicks
namespace Go.Proofs.Ytcaibhjdahmjeaa
open Go.RowKit
set_option linter.unusedVariables false
set_option linter.unusedSimpArgs false

theorem picksI_pre (l : List Cd) (k : Nat) : ∀ d, ∃ r, picksI l (k + d) = picksI l k ++ r
  | 0 => ⟨[], by simp⟩
  | d + 1 => by
    obtain ⟨r, hr⟩ := picksI_pre l k d
    cases h : canPick l ((k + d : Nat) : Int) with
    | true => exact ⟨r ++ [((k + d : Nat) : Int)], by rw [show k + (d + 1) = (k + d) + 1 by omega, picksI_yes h, hr, List.append_assoc]⟩
    | false => exact ⟨r, by rw [show k + (d + 1) = (k + d) + 1 by omega, picksI_no h, hr]⟩
theorem picksI_get {l : List Cd} {k : Nat} (hk : k < l.length) (h : canPick l (k : Int) = true) : (picksI l l.length)[(picksI l k).length]? = some (k : Int) := by
  obtain ⟨r, hr⟩ := picksI_pre l (k + 1) (l.length - (k + 1))
  rw [show k + 1 + (l.length - (k + 1)) = l.length by omega, picksI_yes h] at hr
  rw [hr, List.append_assoc, List.getElem?_append_right (Nat.le_refl _)]
  simp
/-- What the last place before k is. -/
theorem picksI_last (l : List Cd) : ∀ k, (picksI l k).length = 0 ∨ ∃ p : Nat, canPick l (p : Int) = true ∧ p < k ∧ (picksI l k).length = (picksI l p).length + 1
  | 0 => .inl (by unfold picksI; split <;> rfl)
  | k + 1 => by
    cases h : canPick l (k : Int) with
    | true => exact .inr ⟨k, h, by omega, by rw [picksI_yes h]; simp⟩
    | false =>
      rw [picksI_no h]
      rcases picksI_last l k with h0 | ⟨p, h1, h2, h3⟩
      · exact .inl h0
      · exact .inr ⟨p, h1, by omega, h3⟩
theorem canPick_far {l : List Cd} {p k : Nat} (h : canPick l (p : Int) = true) (h2 : canPick l (k : Int) = true) (hpk : p < k) : p + 3 ≤ k := by
  rw [canPick_nat] at h h2
  simp only [pickB, Bool.and_eq_true, beq_iff_eq] at h h2
  have h1 : k ≠ p + 1 := fun e => by subst e; omega
  have h3 : k ≠ p + 2 := fun e => by subst e; omega
  omega

def FPRel (w : World) (l : List Cd) (av kv : Value) (wr : World) : Prop := ∃ k : Nat, k ≤ l.length ∧ kv = .int .i64 k ∧ av = .int .i64 (picksI l k).length ∧ Below w.heap.size w wr