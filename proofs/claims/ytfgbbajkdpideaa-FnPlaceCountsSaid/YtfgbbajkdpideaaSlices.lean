/- Searching slices of numbers. -/
import Derived.Test.YtfgbbajkdpideaaLock0
import Derived.Test.YtfgbbajkdpideaaMem2
namespace Go.Proofs.Ytfgbbajkdpideaa
open Go.RowKit
set_option linter.unusedVariables false
set_option linter.unusedSimpArgs false

def IdxPost (l : List Int) (v i : Int) : Prop := (∃ k : Nat, i = (k : Int) ∧ k < l.length ∧ cN l k = v ∧ ∀ j, j < k → cN l j ≠ v) ∨ (i = -1 ∧ ∀ j, j < l.length → cN l j ≠ v)

theorem idx_any {l : List Int} {v i : Int} (h : IdxPost l v i) : decide (0 ≤ i) = l.any (fun x => x == v) := by
  rcases h with ⟨k, rfl, hk, e, _⟩ | ⟨rfl, hne⟩
  · have : l.any (fun x => x == v) = true := List.any_eq_true.2 ⟨cN l k, List.mem_of_getElem? (cN_get hk), by rw [e]; simp⟩
    rw [this]; simp
  · have : l.any (fun x => x == v) = false := by
      rw [List.any_eq_false]
      intro x hx
      obtain ⟨k, hk⟩ := List.getElem?_of_mem hx
      have hkl := (List.getElem?_eq_some_iff.1 hk).1
      rw [cN_get hkl] at hk
      injection hk with hk
      have := hne k hkl
      simp; omega
    rw [this]; rfl