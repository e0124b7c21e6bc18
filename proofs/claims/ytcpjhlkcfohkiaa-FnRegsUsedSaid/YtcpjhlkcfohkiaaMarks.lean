/- Contracts of the helpers that mark a row and ask for the marks. -/
import Derived.Test.YtcpjhlkcfohkiaaCodes
namespace Go.Proofs.Ytcpjhlkcfohkiaa
open Go.RowKit
set_option linter.unusedVariables false
set_option linter.unusedSimpArgs false

/-- m consecutive numbers from k on. -/
def marks (k : Int) (m : Nat) : List Value := (List.range m).map fun (j : Nat) => Value.int .i64 (k + (j : Int))

theorem marks_length (k : Int) (m : Nat) : (marks k m).length = m := by simp [marks]
theorem marks_get (k : Int) (m j : Nat) (h : j < m) : (marks k m)[j]? = some (.int .i64 (k + j)) := by simp [marks, h]

/-- What a row holds after its first m cells have been marked. -/
def marked (k : Int) (m : Nat) (xs : List Value) : List Value := marks k m ++ xs.drop m
theorem marked_zero (k : Int) (xs : List Value) : marked k 0 xs = xs := by simp [marked, marks]
theorem marked_all (k : Int) (xs : List Value) : marked k xs.length xs = marks k xs.length := by simp [marked]
theorem marked_length (k : Int) (m : Nat) (xs : List Value) (h : m ≤ xs.length) : (marked k m xs).length = xs.length := by
  simp [marked, marks_length]; omega
theorem marked_set (k : Int) (m : Nat) (xs : List Value) (h : m < xs.length) : (marked k m xs).set m (.int .i64 (k + m)) = marked k (m + 1) xs := by
  apply List.ext_getElem?
  intro i
  rw [List.getElem?_set, marked_length k m xs (by omega)]
  simp only [marked]
  by_cases hi : m = i
  · subst hi
    rw [if_pos rfl, if_pos h, List.getElem?_append_left (by rw [marks_length]; omega), marks_get _ _ _ (by omega)]
  · rw [if_neg hi]
    by_cases hlt : i < m
    · rw [List.getElem?_append_left (by rw [marks_length]; omega), List.getElem?_append_left (by rw [marks_length]; omega), marks_get _ _ _ hlt, marks_get _ _ _ (by omega)]
    · rw [List.getElem?_append_right (by rw [marks_length]; omega), List.getElem?_append_right (by rw [marks_length]; omega), List.getElem?_drop, List.getElem?_drop]
      congr 1
      simp only [marks_length]
      omega

theorem grown_set {w w1 : World} {g : Nat} (h : w.grownBy w1 (some g)) (j : Nat) (u : Value) : w.grownBy (w1.setCell ⟨g, j, none⟩ u) (some g) :=
  ⟨h.os, h.tape, h.output, by simpa [World.setCell] using h.size, fun k hk hne => (Below.heap_setCell w1 _ u k (fun e => hne (by subst e; rfl))).trans (h.block k hk hne)⟩
theorem grown_refl (w : World) (row : Option Nat) : w.grownBy w row := ⟨rfl, rfl, rfl, Nat.le_refl _, fun _ _ _ => rfl⟩

theorem own_cell {w : World} {base : Nat} {e : TypeId} {size g n cap : Nat} {xs : List Value} (h : w.ownsRow base e size (.slice (some ⟨g, 0, none⟩) n cap) n xs) (j : Nat) (hj : j < n * size) : ∃ u, w.cell? ⟨g, j, none⟩ = some u := by
  rw [h.cellAt j hj]
  exact ⟨xs[j]'(by rw [h.1]; exact hj), List.getElem?_eq_getElem (by rw [h.1]; exact hj)⟩

set_option maxRecDepth 100000 in
set_option maxHeartbeats 800000 in
theorem markCodeS_c (A : Option Addr) (n c base : Nat) (e : TypeId) (k0 : Int) (xs : List Value) (w : World) (hown : w.ownsRow base e 4 (.slice A n c) n xs) (hn : n ≤ 1000000000000) (hk0 : 0 ≤ k0) (hk1 : k0 ≤ 1000000000000) :
    Calls Try.prog 20 #[.slice A n c, .int .i64 k0] w fun r w' => r = .returned (.int .i64 (k0 + 4 * n)) ∧ w'.ownsRow base e 4 (.slice A n c) n (marks k0 (n * 4)) ∧ w.grownBy w' (Value.ownBlock (.slice A n c)) := by
  have hxs : xs.length = n * 4 := hown.1
  go_enter Try.func20, Try.ntmps20
  go_wp2
  go_loopw [1, 5] (fun m i wr => ∃ k : Nat, k ≤ n ∧ i = .int .i64 k ∧ m = .int .i64 (k0 + 4 * k) ∧ wr.ownsRow base e 4 (.slice A n c) n (marked k0 (k * 4) xs) ∧ w.grownBy wr (Value.ownBlock (.slice A n c))) (fun _ i _ => n - (intOf i).toNat)
  case atStart => exact ⟨0, Nat.zero_le _, rfl, by go_num, by rw [Nat.zero_mul, marked_zero]; exact hown, grown_refl _ _⟩
  case round =>
    obtain ⟨k, hk, rfl, rfl, ho, hg⟩ := hrel
    by_cases hlt : k < n
    · obtain ⟨g, cap, hA, _, _⟩ := ho.form (by omega)
      injection hA with hA _ hc
      subst hA hc
      obtain ⟨u0, hu0⟩ := own_cell ho (k * 4) (by omega)
      obtain ⟨u1, hu1⟩ := own_cell ho (k * 4 + 1) (by omega)
      obtain ⟨u2, hu2⟩ := own_cell ho (k * 4 + 2) (by omega)
      obtain ⟨u3, hu3⟩ := own_cell ho (k * 4 + 3) (by omega)
      have hf0 := ho.frozenAt (k * 4)
      have hf1 := ho.frozenAt (k * 4 + 1)
      have hf2 := ho.frozenAt (k * 4 + 2)
      have hf3 := ho.frozenAt (k * 4 + 3)
      have HX := Lib.hid hxs
      clear hxs
      go_wp2
      go_roundw
      case rel =>
        refine ⟨k + 1, by omega, by go_num, by go_num, ?_, by repeat (first | exact hg | apply grown_set)⟩
        have h1 := ((((((ho.stored (k * 4) (.int .i64 (k0 + (k * 4 : Nat)))).1).stored (k * 4 + 1) (.int .i64 (k0 + (k * 4 + 1 : Nat)))).1.stored (k * 4 + 2) (.int .i64 (k0 + (k * 4 + 2 : Nat)))).1).stored (k * 4 + 3) (.int .i64 (k0 + (k * 4 + 3 : Nat)))).1
        have hx := HX.out
        rw [marked_set _ _ _ (by omega), marked_set _ _ _ (by omega), marked_set _ _ _ (by omega), marked_set _ _ _ (by omega)] at h1
        rw [show (k + 1) * 4 = k * 4 + 3 + 1 from by omega]
        rw [show k0 + 4 * (k : Int) + 1 + 1 + 1 = k0 + (k * 4 + 3 : Nat) from by omega, show k0 + 4 * (k : Int) + 1 + 1 = k0 + (k * 4 + 2 : Nat) from by omega, show k0 + 4 * (k : Int) + 1 = k0 + (k * 4 + 1 : Nat) from by omega, show k0 + 4 * (k : Int) = k0 + (k * 4 : Nat) from by omega]
        exact h1
      case measure => simp [intOf]; omega
    · obtain rfl : k = n := by omega
      go_wp2
      go_ret
      refine ⟨rfl, ?_, hg⟩
      have := marked_all k0 xs
      rw [hxs] at this
      rw [← this]
      exact ho
end Go.Proofs.Ytcpjhlkcfohkiaa
