/- Contracts of the helpers on lists of instructions. -/
import Derived.Test.YtfgbbajkdpideaaMem
import Derived.StillTailTactics
import Derived.Deep.RegionWith
namespace Go.Proofs.Ytfgbbajkdpideaa
open Go.RowKit
set_option linter.unusedVariables false
set_option linter.unusedSimpArgs false

def cdEq (x y : Cd) : Bool := x.op == y.op && (x.a == y.a && (x.b == y.b && x.c == y.c))

def cdsEq : List Cd → List Cd → Bool
  | [], [] => true
  | x :: l, y :: m => cdEq x y && cdsEq l m
  | _, _ => false

theorem cdsEq_len : ∀ (l m : List Cd), l.length ≠ m.length → cdsEq l m = false
  | [], [], h => absurd rfl h
  | [], _ :: _, _ => rfl
  | _ :: _, [], _ => rfl
  | x :: l, y :: m, h => by
    have := cdsEq_len l m (by simpa using h)
    simp [cdsEq, this]

theorem cdsEq_step {l m : List Cd} {k : Nat} {x y : Cd} (hx : l[k]? = some x) (hy : m[k]? = some y) : cdsEq (l.drop k) (m.drop k) = (cdEq x y && cdsEq (l.drop (k + 1)) (m.drop (k + 1))) := by
  obtain ⟨h1, rfl⟩ := List.getElem?_eq_some_iff.1 hx
  obtain ⟨h2, rfl⟩ := List.getElem?_eq_some_iff.1 hy
  rw [List.drop_eq_getElem_cons h1, List.drop_eq_getElem_cons h2]
  rfl

/-- m consecutive numbers from k on. -/
def marks (k : Int) (m : Nat) : List Value := (List.range m).map fun (j : Nat) => Value.int .i64 (k + (j : Int))

theorem marks_length (k : Int) (m : Nat) : (marks k m).length = m := by simp [marks]
theorem marks_get (k : Int) (m j : Nat) (h : j < m) : (marks k m)[j]? = some (.int .i64 (k + j)) := by simp [marks, h]

/-- What a row holds after its first m cells have been marked. -/
def marked (k : Int) (m : Nat) (xs : List Value) : List Value := marks k m ++ xs.drop m
theorem marked_zero (k : Int) (xs : List Value) : marked k 0 xs = xs := by simp [marked, marks]
theorem marked_all (k : Int) (xs : List Value) : marked k xs.length xs = marks k xs.length := by simp [marked]
theorem marked_length (k : Int) (m : Nat) (xs : List Value) (h : m ≤ xs.length) : (marked k m xs).length = xs.length := by
  simp [marked, marks_length]; omega
theorem marked_set (k : Int) (m : Nat) (xs : List Value) (h : m < xs.length) : (marked k m xs).set m (.int .i64 (k + m)) = marked k (m + 1) xs := by
  apply List.ext_getElem?
  intro i
  rw [List.getElem?_set, marked_length k m xs (by omega)]
  simp only [marked]
  by_cases hi : m = i
  · subst hi
    rw [if_pos rfl, if_pos h, List.getElem?_append_left (by rw [marks_length]; omega), marks_get _ _ _ (by omega)]
  · rw [if_neg hi]
    by_cases hlt : i < m
    · rw [List.getElem?_append_left (by rw [marks_length]; omega), List.getElem?_append_left (by rw [marks_length]; omega), marks_get _ _ _ hlt, marks_get _ _ _ (by omega)]
    · rw [List.getElem?_append_right (by rw [marks_length]; omega), List.getElem?_append_right (by rw [marks_length]; omega), List.getElem?_drop, List.getElem?_drop]
      congr 1
      simp only [marks_length]
      omega

theorem grown_set {w w1 : World} {g : Nat} (h : w.grownBy w1 (some g)) (j : Nat) (u : Value) : w.grownBy (w1.setCell ⟨g, j, none⟩ u) (some g) :=
  ⟨h.os, h.tape, h.output, by simpa [World.setCell] using h.size, fun k hk hne => (Below.heap_setCell w1 _ u k (fun e => hne (by subst e; rfl))).trans (h.block k hk hne)⟩
theorem grown_refl (w : World) (row : Option Nat) : w.grownBy w row := ⟨rfl, rfl, rfl, Nat.le_refl _, fun _ _ _ => rfl⟩

theorem own_cell {w : World} {base : Nat} {e : TypeId} {size g n cap : Nat} {xs : List Value} (h : w.ownsRow base e size (.slice (some ⟨g, 0, none⟩) n cap) n xs) (j : Nat) (hj : j < n * size) : ∃ u, w.cell? ⟨g, j, none⟩ = some u := by
  rw [h.cellAt j hj]
  exact ⟨xs[j]'(by rw [h.1]; exact hj), List.getElem?_eq_getElem (by rw [h.1]; exact hj)⟩

theorem Reads.at1 {w : World} {B n : Nat} {A : Option Addr} {xs : List Value} (h : Reads w B 1 A n xs) {k : Nat} (hk : k < n) :
    ∃ b off u, A = some ⟨b, off, none⟩ ∧ b < B ∧ xs[k]? = some u ∧ w.cell? ⟨b, off + k, none⟩ = some u := by
  obtain ⟨b, off, e, hb, hc⟩ := h.2 (by omega)
  have hl : k < xs.length := by have := h.1; omega
  exact ⟨b, off, xs[k], e, hb, List.getElem?_eq_getElem hl, hc k _ (List.getElem?_eq_getElem hl)⟩

def intsEq : List Int → List Int → Bool
  | [], [] => true
  | x :: l, y :: m => x == y && intsEq l m
  | _, _ => false
theorem intsEq_len : ∀ (l m : List Int), l.length ≠ m.length → intsEq l m = false
  | [], [], h => absurd rfl h
  | [], _ :: _, _ => rfl
  | _ :: _, [], _ => rfl
  | x :: l, y :: m, h => by
    have := intsEq_len l m (by simpa using h)
    simp [intsEq, this]
theorem intsEq_refl : ∀ l : List Int, intsEq l l = true
  | [] => rfl
  | x :: l => by simp [intsEq, intsEq_refl l]
theorem cdEq_refl (x : Cd) : cdEq x x = true := by simp [cdEq]
theorem cdsEq_refl : ∀ l : List Cd, cdsEq l l = true
  | [] => rfl
  | x :: l => by simp [cdsEq, cdsEq_refl l, cdEq_refl]
theorem intsEq_step {l m : List Int} {k : Nat} {x y : Int} (hx : l[k]? = some x) (hy : m[k]? = some y) : intsEq (l.drop k) (m.drop k) = (x == y && intsEq (l.drop (k + 1)) (m.drop (k + 1))) := by
  obtain ⟨h1, rfl⟩ := List.getElem?_eq_some_iff.1 hx
  obtain ⟨h2, rfl⟩ := List.getElem?_eq_some_iff.1 hy
  rw [List.drop_eq_getElem_cons h1, List.drop_eq_getElem_cons h2]
  rfl

/-- Replacing element k of a list by the next element of another one. -/
theorem take_set_drop {α : Type} (xs zs : List α) (k : Nat) (x : α) (hx : xs[k]? = some x) (hk : k < zs.length) : (xs.take k ++ zs.drop k).set k x = xs.take (k + 1) ++ zs.drop (k + 1) := by
  obtain ⟨hl, rfl⟩ := List.getElem?_eq_some_iff.1 hx
  have hlen : (xs.take k).length = k := by simp; omega
  rw [List.set_append_right (h := by omega), hlen, Nat.sub_self, List.drop_eq_getElem_cons hk, List.set_cons_zero, List.take_succ_eq_append_getElem hl, List.append_assoc]
  rfl

end Go.Proofs.Ytfgbbajkdpideaa
