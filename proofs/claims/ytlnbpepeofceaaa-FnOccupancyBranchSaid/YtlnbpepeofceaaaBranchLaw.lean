/- The occupancy of a branch: plain Lean, no program in sight. -/
import Derived.Test.YtlnbpepeofceaaaProfP
import Derived.ProofKit
namespace Go.Proofs.Ytlnbpepeofceaaa
open Go.RowKit
set_option linter.unusedVariables false
set_option linter.unusedSimpArgs false

def branchL : List Cd := [⟨2, 0, 0, 0⟩, ⟨11, 0, 0, 0⟩, ⟨1, 1, 1, 0⟩, ⟨14, 0, 0, 0⟩]
def branchT : Blk := .op ⟨2, 0, 0, 0⟩ (.iff 0 (.op ⟨1, 1, 1, 0⟩ .nil) .nil)
theorem branch_pv : pv branchL = true := by decide +kernel
theorem branch_ok : branchT.ok 3 := by
  refine ⟨by decide +kernel, by decide, by decide, ⟨by decide, by decide⟩, by decide, ⟨by decide +kernel, by decide, by decide, trivial⟩, trivial⟩
theorem branch_tree : treeOf branchL = branchT := treeOf_eq branch_ok rfl branch_pv
def branchB (n : Nat) : List (Nat × Nat) := if n = 1 then [(0, 1), (1, 1)] else [(0, 2 ^ n - 1), (1, 2 ^ n - 1), (2, 2 ^ n - 2)]
theorem branch_beats (m : List Int) : ∀ n : Nat, 1 ≤ n → n ≤ 8 → (runT branchT n m).beats = branchB n
  | 0, h, _ => by omega
  | 1, _, _ => by kernel_rfl
  | 2, _, _ => by kernel_rfl
  | 3, _, _ => by kernel_rfl
  | 4, _, _ => by kernel_rfl
  | 5, _, _ => by kernel_rfl
  | 6, _, _ => by kernel_rfl
  | 7, _, _ => by kernel_rfl
  | 8, _, _ => by kernel_rfl
  | n + 9, _, h => by omega
theorem branch_occ {n : Int} {m : List Int} (h : lockOk branchL n m = true) : (n = 1 → occL branchL n m = 100) ∧ (1 < n → occL branchL n m = 100 * (3 * n - 1) / (3 * n)) := by
  have hn := lock_n h
  obtain ⟨k, rfl⟩ : ∃ k : Nat, n = (k : Int) := ⟨n.toNat, by omega⟩
  have ht : traceOf branchL k m = branchB k := by
    unfold traceOf
    rw [if_pos h]
    unfold lockS
    rw [branch_tree, Int.toNat_natCast]
    exact branch_beats m k (by omega) (by omega)
  have e : occL branchL k m = if (branchB k).length = 0 then 100 else ((100 * actOf (branchB k) / ((branchB k).length * k) : Nat) : Int) := by
    unfold occL
    rw [if_pos h, ht, Int.toNat_natCast]
  rw [e]
  have hk : k = 1 ∨ k = 2 ∨ k = 3 ∨ k = 4 ∨ k = 5 ∨ k = 6 ∨ k = 7 ∨ k = 8 := by omega
  rcases hk with rfl | rfl | rfl | rfl | rfl | rfl | rfl | rfl <;> decide +kernel

end Go.Proofs.Ytlnbpepeofceaaa
