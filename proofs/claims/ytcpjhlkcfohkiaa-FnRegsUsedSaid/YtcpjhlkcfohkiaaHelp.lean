/- Contracts of the helpers that copy, compare and ask for marks. -/
import Derived.Test.YtcpjhlkcfohkiaaMarks
namespace Go.Proofs.Ytcpjhlkcfohkiaa
open Go.RowKit
set_option linter.unusedVariables false
set_option linter.unusedSimpArgs false

theorem Reads.at1 {w : World} {B n : Nat} {A : Option Addr} {xs : List Value} (h : Reads w B 1 A n xs) {k : Nat} (hk : k < n) :
    ∃ b off u, A = some ⟨b, off, none⟩ ∧ b < B ∧ xs[k]? = some u ∧ w.cell? ⟨b, off + k, none⟩ = some u := by
  obtain ⟨b, off, e, hb, hc⟩ := h.2 (by omega)
  have hl : k < xs.length := by have := h.1; omega
  exact ⟨b, off, xs[k], e, hb, List.getElem?_eq_getElem hl, hc k _ (List.getElem?_eq_getElem hl)⟩

set_option maxRecDepth 100000 in
set_option maxHeartbeats 800000 in
theorem heldCodeS_c (A : Option Addr) (n c B : Nat) (k0 : Int) (w : World) (hr : Reads w B 4 A n (marks k0 (n * 4))) (hn : n ≤ 1000000000000) (hk0 : 0 ≤ k0) (hk1 : k0 ≤ 1000000000000) :
    Calls Try.prog 21 #[.slice A n c, .int .i64 k0] w fun r w' => r = .returned (.int .i64 (k0 + 4 * n)) ∧ Below w.heap.size w w' := by
  go_enter Try.func21, Try.ntmps21
  go_wp2
  go_loopw [1, 5] (fun m i wr => ∃ k : Nat, k ≤ n ∧ i = .int .i64 k ∧ m = .int .i64 (k0 + 4 * k) ∧ Hid (∀ p, wr.cell? p = w.cell? p) ∧ Below w.heap.size w wr) (fun _ i _ => n - (intOf i).toNat)
  case atStart => exact ⟨0, Nat.zero_le _, rfl, by go_num, fun _ => rfl, Below.refl _ _⟩
  case round =>
    obtain ⟨k, hk, rfl, rfl, HS, hb⟩ := hrel
    by_cases hlt : k < n
    · obtain ⟨b, off, rfl, _, hc⟩ := hr.2 (by omega)
      have c0 : wr.cell? ⟨b, off + k * 4, none⟩ = some (.int .i64 (k0 + ((k * 4 : Nat) : Int))) := (HS.out _).trans (hc (k * 4) _ (marks_get _ _ _ (by omega)))
      have c1 : wr.cell? ⟨b, off + k * 4 + 1, none⟩ = some (.int .i64 (k0 + ((k * 4 + 1 : Nat) : Int))) := (HS.out _).trans (hc (k * 4 + 1) _ (marks_get _ _ _ (by omega)))
      have c2 : wr.cell? ⟨b, off + k * 4 + 2, none⟩ = some (.int .i64 (k0 + ((k * 4 + 2 : Nat) : Int))) := (HS.out _).trans (hc (k * 4 + 2) _ (marks_get _ _ _ (by omega)))
      have c3 : wr.cell? ⟨b, off + k * 4 + 3, none⟩ = some (.int .i64 (k0 + ((k * 4 + 3 : Nat) : Int))) := (HS.out _).trans (hc (k * 4 + 3) _ (marks_get _ _ _ (by omega)))
      rw [show k0 + ((k * 4 : Nat) : Int) = k0 + 4 * (k : Int) from by omega] at c0
      rw [show k0 + ((k * 4 + 1 : Nat) : Int) = k0 + 4 * (k : Int) + 1 from by omega] at c1
      rw [show k0 + ((k * 4 + 2 : Nat) : Int) = k0 + 4 * (k : Int) + 1 + 1 from by omega] at c2
      rw [show k0 + ((k * 4 + 3 : Nat) : Int) = k0 + 4 * (k : Int) + 1 + 1 + 1 from by omega] at c3
      have HC := Lib.hid hc
      clear hc
      go_wp2
      go_roundw
      case rel => exact ⟨k + 1, by omega, by go_num, by go_num, HS, hb⟩
      case measure => simp [intOf]; omega
    · obtain rfl : k = n := by omega
      go_wp2
      go_ret
      exact ⟨rfl, hb⟩
end Go.Proofs.Ytcpjhlkcfohkiaa
