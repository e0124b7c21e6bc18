/- Copying numbers. -/
import Derived.Test.YtakeacndmnnbmaaGreatMarks2
namespace Go.Proofs.YtakeacndmnnbmaaGreat
open Go.RowKit
set_option linter.unusedVariables false
set_option linter.unusedSimpArgs false

set_option maxRecDepth 100000 in
set_option maxHeartbeats 800000 in
theorem toIntS_c (A : Option Addr) (c : Nat) (l : List Int) (w : World) (hA : RdI w w.heap.size A l) (hl : l.length ≤ 1000000000) :
    Calls Tryz.prog 12 #[.slice A l.length c] w fun e w' => ∃ A', e = .returned (.slice A' l.length l.length) ∧ OI w' w.heap.size A' l.length l.length l ∧ Below w.heap.size w w' := by
  have hmk := make_int l.length (by omega)
  go_enter Tryz.func12, Tryz.ntmps12
  go_wp2
  have hz := zeroRow_size (.int .i64 0) l.length
  have ho := OR.lit w w.heap.size 3 1 l.length _ (Nat.le_refl _) (by omega) (hz.trans (by omega))
  generalize zeroRow (.int .i64 0) l.length = zr at *
  clear hmk
  go_loopw [4] (fun i wr => ∃ k : Nat, k ≤ l.length ∧ i = .int .i64 k ∧ OR wr w.heap.size 3 1 (some ⟨w.heap.size, 0, none⟩) l.length l.length ((l.map (Value.int .i64)).take k ++ zr.toList.drop k) ∧ Below w.heap.size w wr) (fun i _ => l.length - (intOf i).toNat)
  case atStart => exact ⟨0, Nat.zero_le _, rfl, by simpa using ho, (Below.refl _ _).alloc (Nat.le_refl _) _⟩
  case round =>
    obtain ⟨k, hk, rfl, ho, hb⟩ := hrel
    by_cases hlt : k < l.length
    · obtain ⟨b, off, x, rfl, hbB, hx, c0⟩ := (hA.below hb).at_ hlt
      have HX := Lib.hid hx
      have HZ := Lib.hid hz
      clear hx hz
      obtain ⟨u0, hu0⟩ := ho.some_cell k (by omega)
      have hf0 := ho.at0.2.1 k
      have hne : ¬ b = w.heap.size := by omega
      go_wp2
      go_roundw
      case rel =>
        refine ⟨k + 1, by omega, by go_num, ?_, hb.setCell (Nat.le_refl _) _⟩
        have h1 := ho.at0.2.2 k (.int .i64 x)
        have hx := HX.out
        have hz := HZ.out
        have hzl : zr.toList.length = l.length := by simpa using hz
        rw [take_set_drop (l.map (Value.int .i64)) zr.toList k (.int .i64 x) (by rw [List.getElem?_map, hx]; rfl) (by omega)] at h1
        exact h1
      case measure => simp [intOf]; omega
    · obtain rfl : k = l.length := by omega
      go_wp2
      go_ret
      refine ⟨_, rfl, ?_, hb⟩
      have hzl : zr.toList.length = l.length := by simpa using hz
      rw [List.take_of_length_le (by simp), List.drop_of_length_le (by omega), List.append_nil] at ho
      exact ho
end Go.Proofs.YtakeacndmnnbmaaGreat
