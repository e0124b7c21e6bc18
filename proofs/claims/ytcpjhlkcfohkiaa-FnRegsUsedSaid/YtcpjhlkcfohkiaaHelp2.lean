/- Contracts of the helpers that compare numbers and copy. -/
import Derived.Test.YtcpjhlkcfohkiaaHelp
namespace Go.Proofs.Ytcpjhlkcfohkiaa
open Go.RowKit
set_option linter.unusedVariables false
set_option linter.unusedSimpArgs false

def intsEq : List Int → List Int → Bool
  | [], [] => true
  | x :: l, y :: m => x == y && intsEq l m
  | _, _ => false
theorem intsEq_len : ∀ (l m : List Int), l.length ≠ m.length → intsEq l m = false
  | [], [], h => absurd rfl h
  | [], _ :: _, _ => rfl
  | _ :: _, [], _ => rfl
  | x :: l, y :: m, h => by
    have := intsEq_len l m (by simpa using h)
    simp [intsEq, this]
theorem intsEq_refl : ∀ l : List Int, intsEq l l = true
  | [] => rfl
  | x :: l => by simp [intsEq, intsEq_refl l]
theorem cdEq_refl (x : Cd) : cdEq x x = true := by simp [cdEq]
theorem cdsEq_refl : ∀ l : List Cd, cdsEq l l = true
  | [] => rfl
  | x :: l => by simp [cdsEq, cdsEq_refl l, cdEq_refl]
theorem intsEq_step {l m : List Int} {k : Nat} {x y : Int} (hx : l[k]? = some x) (hy : m[k]? = some y) : intsEq (l.drop k) (m.drop k) = (x == y && intsEq (l.drop (k + 1)) (m.drop (k + 1))) := by
  obtain ⟨h1, rfl⟩ := List.getElem?_eq_some_iff.1 hx
  obtain ⟨h2, rfl⟩ := List.getElem?_eq_some_iff.1 hy
  rw [List.drop_eq_getElem_cons h1, List.drop_eq_getElem_cons h2]
  rfl

/-- Replacing element k of a list by the next element of another one. -/
theorem take_set_drop {α : Type} (xs zs : List α) (k : Nat) (x : α) (hx : xs[k]? = some x) (hk : k < zs.length) : (xs.take k ++ zs.drop k).set k x = xs.take (k + 1) ++ zs.drop (k + 1) := by
  obtain ⟨hl, rfl⟩ := List.getElem?_eq_some_iff.1 hx
  have hlen : (xs.take k).length = k := by simp; omega
  rw [List.set_append_right (h := by omega), hlen, Nat.sub_self, List.drop_eq_getElem_cons hk, List.set_cons_zero, List.take_succ_eq_append_getElem hl, List.append_assoc]
  rfl

set_option maxRecDepth 100000 in
set_option maxHeartbeats 800000 in
theorem toCodeS_c (A : Option Addr) (c : Nat) (l : List Cd) (w : World) (hA : RdC w w.heap.size A l) (hl : l.length ≤ 1000000000) :
    Calls Try.prog 17 #[.slice A l.length c] w fun e w' => ∃ A', e = .returned (.slice A' l.length l.length) ∧ OC w' w.heap.size A' l.length l.length l ∧ Below w.heap.size w w' := by
  have hmk := make_code l.length (by omega)
  go_enter Try.func17, Try.ntmps17
  go_wp2
  have hz := zeroRow_size (.agg #[.int .i64 0, .int .i64 0, .int .i64 0, .int .i64 0]) (l.length * 4)
  have ho := OR.lit w w.heap.size 45 4 l.length _ (Nat.le_refl _) (by omega) hz
  generalize zeroRow (.agg #[.int .i64 0, .int .i64 0, .int .i64 0, .int .i64 0]) (l.length * 4) = zr at *
  clear hmk
  go_loopw [4] (fun i wr => ∃ k : Nat, k ≤ l.length ∧ i = .int .i64 k ∧ OR wr w.heap.size 45 4 (some ⟨w.heap.size, 0, none⟩) l.length l.length ((cdsCells l).take (k * 4) ++ zr.toList.drop (k * 4)) ∧ Below w.heap.size w wr) (fun i _ => l.length - (intOf i).toNat)
  case atStart => exact ⟨0, Nat.zero_le _, rfl, by simpa using ho, (Below.refl _ _).alloc (Nat.le_refl _) _⟩
  case round =>
    obtain ⟨k, hk, rfl, ho, hb⟩ := hrel
    by_cases hlt : k < l.length
    · obtain ⟨b, off, x, rfl, hbB, hx, c0, c1, c2, c3⟩ := (hA.below hb).at_ hlt
      have HX := Lib.hid hx
      have HZ := Lib.hid hz
      clear hx hz
      go_wp2_with fail
      refine (toCode_c x _).mono ?_
      rintro e w1 ⟨rfl, hb1⟩
      have ho1 := ho.below hb1 (Nat.le_refl _)
      obtain ⟨u0, hu0⟩ := ho1.some_cell (k * 4) (by omega)
      obtain ⟨u1, hu1⟩ := ho1.some_cell (k * 4 + 1) (by omega)
      obtain ⟨u2, hu2⟩ := ho1.some_cell (k * 4 + 2) (by omega)
      obtain ⟨u3, hu3⟩ := ho1.some_cell (k * 4 + 3) (by omega)
      have hf0 := ho1.at0.2.1 (k * 4)
      have hf1 := ho1.at0.2.1 (k * 4 + 1)
      have hf2 := ho1.at0.2.1 (k * 4 + 2)
      have hf3 := ho1.at0.2.1 (k * 4 + 3)
      clear c0 c1 c2 c3
      unfold Cd.val
      go_wp2
      go_roundw
      case rel =>
        refine ⟨k + 1, by omega, by go_num, ?_, ?_⟩
        · have h1 := ((((((ho1.at0.2.2 (k * 4) (.int .i64 x.op)).at0.2.2 (k * 4 + 1) (.int .i64 x.a))).at0.2.2 (k * 4 + 2) (.int .i64 x.b))).at0.2.2 (k * 4 + 3) (.int .i64 x.c))
          have hx := HX.out
          have hz := HZ.out
          have hcl := cdsCells_length l
          have hzl : zr.toList.length = l.length * 4 := by simpa using hz
          have e0 : (cdsCells l)[k * 4]? = some (.int .i64 x.op) := cdsCells_get l k x hx 0 (by omega)
          have e1 : (cdsCells l)[k * 4 + 1]? = some (.int .i64 x.a) := cdsCells_get l k x hx 1 (by omega)
          have e2 : (cdsCells l)[k * 4 + 2]? = some (.int .i64 x.b) := cdsCells_get l k x hx 2 (by omega)
          have e3 : (cdsCells l)[k * 4 + 3]? = some (.int .i64 x.c) := cdsCells_get l k x hx 3 (by omega)
          rw [take_set_drop _ zr.toList _ _ e0 (by omega), take_set_drop _ zr.toList _ _ e1 (by omega), take_set_drop _ zr.toList _ _ e2 (by omega), take_set_drop _ zr.toList _ _ e3 (by omega)] at h1
          rw [show (k + 1) * 4 = k * 4 + 3 + 1 from by omega]
          exact h1
        · have := hb.trans (hb1.mono hb.size)
          exact (((this.setCell (Nat.le_refl _) _).setCell (Nat.le_refl _) _).setCell (Nat.le_refl _) _).setCell (Nat.le_refl _) _
      case measure => simp [intOf]; omega
    · obtain rfl : k = l.length := by omega
      go_wp2
      go_ret
      refine ⟨_, rfl, ?_, hb⟩
      have hzl : zr.toList.length = l.length * 4 := by simpa using hz
      rw [List.take_of_length_le (by rw [cdsCells_length]; omega), List.drop_of_length_le (by omega), List.append_nil] at ho
      exact ho
end Go.Proofs.Ytcpjhlkcfohkiaa
