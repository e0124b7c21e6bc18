/- Contracts of the helpers that copy, compare and ask for marks. -/
import Derived.Test.YtlpdakifmdggdaaMarks
namespace Go.Proofs.Ytlpdakifmdggdaa
open Go.RowKit
set_option linter.unusedVariables false
set_option linter.unusedSimpArgs false

theorem Reads.at1 {w : World} {B n : Nat} {A : Option Addr} {xs : List Value} (h : Reads w B 1 A n xs) {k : Nat} (hk : k < n) :
    ∃ b off u, A = some ⟨b, off, none⟩ ∧ b < B ∧ xs[k]? = some u ∧ w.cell? ⟨b, off + k, none⟩ = some u := by
  obtain ⟨b, off, e, hb, hc⟩ := h.2 (by omega)
  have hl : k < xs.length := by have := h.1; omega
  exact ⟨b, off, xs[k], e, hb, List.getElem?_eq_getElem hl, hc k _ (List.getElem?_eq_getElem hl)⟩

set_option maxRecDepth 100000 in
set_option maxHeartbeats 800000 in
theorem heldIntS_c (A : Option Addr) (n c B : Nat) (k0 : Int) (w : World) (hr : Reads w B 1 A n (marks k0 n)) (hn : n ≤ 1000000000000) (hk0 : 0 ≤ k0) (hk1 : k0 ≤ 1000000000000) :
    Calls Try.prog 18 #[.slice A n c, .int .i64 k0] w fun r w' => r = .returned (.int .i64 (k0 + n)) ∧ Below w.heap.size w w' := by
  go_enter Try.func18, Try.ntmps18
  go_wp2
  go_loopw [1, 5] (fun m i wr => ∃ k : Nat, k ≤ n ∧ i = .int .i64 k ∧ m = .int .i64 (k0 + k) ∧ (∀ p, wr.cell? p = w.cell? p) ∧ Below w.heap.size w wr) (fun _ i _ => n - (intOf i).toNat)
  case atStart => exact ⟨0, Nat.zero_le _, rfl, by go_num, fun _ => rfl, Below.refl _ _⟩
  case round =>
    obtain ⟨k, hk, rfl, rfl, hs, hb⟩ := hrel
    by_cases hlt : k < n
    · obtain ⟨b, off, u, rfl, _, hu, hc⟩ := hr.at1 hlt
      rw [marks_get _ _ _ hlt] at hu
      injection hu with hu
      subst hu
      rw [← hs] at hc
      have HS := Lib.hid hs
      clear hs
      have ht : ((k0 + (k : Int)) != (k0 + (k : Int))) = false := by simp
      go_wp2
      go_roundw
      case rel => exact ⟨k + 1, by omega, by go_num, by go_num, HS.out, hb⟩
      case measure => simp [intOf]; omega
    · obtain rfl : k = n := by omega
      clear hs
      go_wp2
      go_ret
      exact ⟨rfl, hb⟩