/- Searching slices of numbers. -/
import Derived.Test.YtakeacndmnnbmaaGreatLock0
import Derived.Test.YtakeacndmnnbmaaGreatMem2
namespace Go.Proofs.YtakeacndmnnbmaaGreat
open Go.RowKit
set_option linter.unusedVariables false
set_option linter.unusedSimpArgs false

def IdxPost (l : List Int) (v i : Int) : Prop := (∃ k : Nat, i = (k : Int) ∧ k < l.length ∧ cN l k = v ∧ ∀ j, j < k → cN l j ≠ v) ∨ (i = -1 ∧ ∀ j, j < l.length → cN l j ≠ v)

set_option maxRecDepth 100000 in
set_option maxHeartbeats 2000000 in
theorem sliceIndex_c (A : Option Addr) (c : Nat) (l : List Int) (v : Int) (w : World) (hA : RdI w w.heap.size A l) (hl : l.length ≤ 1000000000) :
    Calls Tryz.prog 100 #[.slice A l.length c, .int .i64 v] w fun e w' => ∃ i : Int, e = .returned (.int .i64 i) ∧ IdxPost l v i ∧ w = w' := by
  go_enter Tryz.func100, Tryz.ntmps100
  go_wp2
  go_loop [8] (fun kv => ∃ k : Nat, k ≤ l.length ∧ kv = .int .i64 k ∧ Hid (∀ j, j < k → cN l j ≠ v)) (fun kv => l.length - (intOf kv).toNat)
  case atStart => exact ⟨0, Nat.zero_le _, rfl, Lib.hid (fun j hj => by omega)⟩
  case round =>
    obtain ⟨k, hk, rfl, HN⟩ := hrel
    by_cases hlt : k < l.length
    · obtain ⟨b, off, x, rfl, -, hx, dk⟩ := hA.at_ hlt
      have hxk : x = cN l k := by rw [cN_get hlt] at hx; injection hx with h; exact h.symm
      have HX := Lib.hid hxk
      have hkI : (k : Int) < (l.length : Int) := by omega
      clear hx hxk
      cases hv : v == x with
      | true =>
        have HV := Lib.hid hv
        go_wp2
        go_ret
        exact ⟨k, rfl, .inl ⟨k, rfl, hlt, by rw [← HX.out]; exact (beq_iff_eq.1 HV.out).symm, HN.out⟩, rfl⟩
      | false =>
        have HV := Lib.hid hv
        go_wp2
        go_round
        case rel =>
          refine ⟨k + 1, by omega, by go_num, Lib.hid fun j hj => ?_⟩
          by_cases e : j = k
          · subst e
            rw [← HX.out]
            exact fun h => by have := beq_eq_false_iff_ne.1 HV.out; exact this h.symm
          · exact HN.out j (by omega)
        case measure => simp [intOf]; omega
    · obtain rfl : k = l.length := by omega
      go_wp2
      go_ret
      exact ⟨-1, rfl, .inr ⟨rfl, HN.out⟩, rfl⟩

theorem idx_any {l : List Int} {v i : Int} (h : IdxPost l v i) : decide (0 ≤ i) = l.any (fun x => x == v) := by
  rcases h with ⟨k, rfl, hk, e, _⟩ | ⟨rfl, hne⟩
  · have : l.any (fun x => x == v) = true := List.any_eq_true.2 ⟨cN l k, List.mem_of_getElem? (cN_get hk), by rw [e]; simp⟩
    rw [this]; simp
  · have : l.any (fun x => x == v) = false := by
      rw [List.any_eq_false]
      intro x hx
      obtain ⟨k, hk⟩ := List.getElem?_of_mem hx
      have hkl := (List.getElem?_eq_some_iff.1 hk).1
      rw [cN_get hkl] at hk
      injection hk with hk
      have := hne k hkl
      simp; omega
    rw [this]; rfl

set_option maxRecDepth 100000 in
set_option maxHeartbeats 2000000 in
theorem sliceContains_c (A : Option Addr) (c : Nat) (l : List Int) (v : Int) (w : World) (hA : RdI w w.heap.size A l) (hl : l.length ≤ 1000000000) :
    Calls Tryz.prog 70 #[.slice A l.length c, .int .i64 v] w fun e w' => e = .returned (.bool (l.any fun x => x == v)) ∧ w = w' := by
  go_enter Tryz.func70, Tryz.ntmps70
  go_wp2_with fail
  refine (sliceIndex_c A c l v w hA hl).mono ?_
  rintro e w1 ⟨i, rfl, hi, rfl⟩
  have HI := Lib.hid (idx_any hi)
  clear hi
  go_wp2
  go_ret
  exact ⟨retb HI.out, rfl⟩
end Go.Proofs.YtakeacndmnnbmaaGreat
