/- Contracts of GroupMask. -/
import Derived.Test.YtcpjhlkcfohkiaaGroups
import Derived.Test.YtcpjhlkcfohkiaaBits
namespace Go.Proofs.Ytcpjhlkcfohkiaa
open Go.RowKit
set_option linter.unusedVariables false
set_option linter.unusedSimpArgs false

/-- The set of c lanes from lo on. -/
def orRange (lo : Nat) : Nat → Nat
  | 0 => 0
  | c + 1 => orRange lo c ||| 2 ^ (lo + c)
theorem orRange_lt (lo : Nat) : ∀ c, lo + c ≤ 16 → orRange lo c < 2 ^ 16
  | 0, _ => by simp [orRange]
  | c + 1, h => Nat.or_lt_two_pow (orRange_lt lo c (by omega)) (Nat.pow_lt_pow_right (by decide) (by omega))

theorem grMany_bd (l s : Int) : -1 ≤ grMany l s ∧ grMany l s ≤ 8 := by
  unfold grMany
  split
  · rename_i h
    simp only [Bool.and_eq_true, inR_iff] at h
    have : (l + s - 1) / s * s ≤ l + s - 1 := Int.ediv_mul_le _ (by omega)
    have h0 : 0 ≤ (l + s - 1) / s := Int.ediv_nonneg (by omega) (by omega)
    refine ⟨by omega, ?_⟩
    rcases (show s = 1 ∨ 2 ≤ s by omega) with h1 | h1
    · subst h1; omega
    · have : (l + s - 1) / s * 2 ≤ (l + s - 1) / s * s := Int.mul_le_mul_of_nonneg_left h1 h0
      omega
  · omega

/-- The mask of group n of groups of s lanes out of l. -/
def grMask (l s n : Int) : Int := if inR n 0 (grMany l s - 1) then ((orRange (n.toNat * s.toNat) (min (n.toNat * s.toNat + s.toNat) l.toNat - n.toNat * s.toNat) : Nat) : Int) else -1
def gMask (l s n : Nat) : Nat := orRange (n * s) (min (n * s + s) l - n * s)

theorem igroupMask_c (l s n : Nat) (w : World) (h2 : l ≤ 8) (h4 : s ≤ 8) (h5 : n * s ≤ 8) (h6 : n ≤ 8) :
    Calls Try.prog 78 #[.int .i64 l, .int .i64 s, .int .i64 n] w fun e w' => e = .returned (.int .i64 (gMask l s n)) ∧ w = w' := by
  have e1 : ((n : Int) * s) = ((n * s : Nat) : Int) := by simp
  have e2 : (((n : Int) + 1) * s) = ((n * s + s : Nat) : Int) := by rw [Int.add_mul]; simp
  obtain ⟨b, hb⟩ : ∃ b, b = n * s := ⟨_, rfl⟩
  rw [← hb] at e1 e2 h5
  have hp : (0 : Int) ≤ n * s := by omega
  have hp2 : (n : Int) * s ≤ 64 := by omega
  have hq : (0 : Int) ≤ (n + 1) * s := by omega
  have hq2 : ((n : Int) + 1) * s ≤ 72 := by omega
  have HB := Lib.hid hb
  have E1 := Lib.hid e1
  have E2 := Lib.hid e2
  clear hb e1 e2
  go_enter Try.func78, Try.ntmps78
  go_wp2
  go_loop [7, 8] (fun m i => ∃ c : Nat, c ≤ min (b + s) l - b ∧ i = .int .i64 ((b + c : Nat) : Int) ∧ m = .int .i64 (orRange b c)) (fun _ i => 17 - (intOf i).toNat)
  case atStart => exact ⟨0, by omega, by rw [E1.out]; rfl, rfl⟩
  case round =>
    obtain ⟨c, hc, rfl, rfl⟩ := hrel
    have e2 := E2.out
    by_cases h : c < min (b + s) l - b
    · have hlt := orRange_lt b c (by omega)
      have h7 : ((b + c : Nat) : Int) < ((n : Int) + 1) * s := by omega
      have h8 : ((b + c : Nat) : Int) < (l : Int) := by omega
      have hx := or_bit (orRange b c) (b + c) (by omega) (by omega)
      have HX := Lib.hid hx
      clear hx e2
      go_wp2
      all_goals
        go_round
        case rel => exact ⟨c + 1, by omega, by (congr 1 <;> omega), by rw [HX.out]; rfl⟩
        case measure => (simp [intOf]; try omega)
    · have hcc : c = min (b + s) l - b := by omega
      have HC := Lib.hid hcc
      have h7 : ((n : Int) + 1) * s ≤ ((b + c : Nat) : Int) ∨ (l : Int) ≤ ((b + c : Nat) : Int) := by omega
      clear e2 hcc
      rcases h7 with h7 | h7
      all_goals
        go_wp2
      all_goals
        go_ret
        refine ⟨reti ?_, rfl⟩
        have e := HB.out
        rw [gMask, ← e, ← HC.out]

theorem grMask_in {l s n : Int} (h : inR n 0 (grMany l s - 1) = true) : ∃ a b c : Nat, l = a ∧ s = b ∧ n = c ∧ a ≤ 8 ∧ b ≤ 8 ∧ c * b ≤ 8 ∧ c ≤ 8 ∧ 1 ≤ b ∧ 1 ≤ a := by
  rw [inR_iff] at h
  have hb := grMany_bd l s
  by_cases hc : (inR l 1 8 && inR s 1 8) = true
  · have e : grMany l s = (l + s - 1) / s := by simp only [grMany, hc, if_true]
    simp only [Bool.and_eq_true, inR_iff] at hc
    refine ⟨l.toNat, s.toNat, n.toNat, by omega, by omega, by omega, by omega, by omega, ?_, by omega, by omega, by omega⟩
    have h1 : (l + s - 1) / s * s ≤ l + s - 1 := Int.ediv_mul_le _ (by omega)
    have h2 : (n + 1) * s ≤ (l + s - 1) / s * s := Int.mul_le_mul_of_nonneg_right (by omega) (by omega)
    have h3 : ((n.toNat * s.toNat : Nat) : Int) = n * s := by
      rw [Int.natCast_mul, Int.toNat_of_nonneg (by omega), Int.toNat_of_nonneg (by omega)]
    rw [Int.add_mul] at h2
    omega
  · have e : grMany l s = -1 := by simp only [grMany, hc]; rfl
    omega

theorem grMask_eq {a b c : Nat} (h : inR (c : Int) 0 (grMany a b - 1) = true) : grMask a b c = ((gMask a b c : Nat) : Int) := by
  simp only [grMask, h, if_true, gMask, Int.toNat_natCast]

theorem iGroupMask_c (l s n : Int) (w : World) :
    Calls Try.prog 27 #[.int .i64 l, .int .i64 s, .int .i64 n] w fun e w' => e = .returned (.int .i64 (grMask l s n)) ∧ w = w' := by
  have hb : -1 ≤ grMany l s ∧ grMany l s ≤ 100 := by have := grMany_bd l s; omega
  obtain ⟨hb1, hb2⟩ := hb
  cases h : inR n 0 (grMany l s - 1) with
  | false =>
    by_cases hneg : grMany l s < 0
    all_goals
      go_enter Try.func27, Try.ntmps27
      go_wp2_with (first | (go_at_call 23; refine (iGroupsMany_c _ _ _).mono ?_; rintro e w' ⟨rfl, rfl⟩) | (go_at_call 77; refine (within_c _ _ _ _).mono ?_; rintro e w' ⟨rfl, rfl⟩))
      go_ret
      exact ⟨reti (by simp [grMask, h]), rfl⟩
  | true =>
    obtain ⟨a, b, c, rfl, rfl, rfl, h1, h2, h3, h4, h5, h6⟩ := grMask_in h
    have hneg : ¬ grMany a b < 0 := by rw [inR_iff] at h; omega
    have HE := Lib.hid (grMask_eq h)
    go_enter Try.func27, Try.ntmps27
    go_wp2_with (first | (go_at_call 23; refine (iGroupsMany_c _ _ _).mono ?_; rintro e w' ⟨rfl, rfl⟩) | (go_at_call 77; refine (within_c _ _ _ _).mono ?_; rintro e w' ⟨rfl, rfl⟩) | (go_at_call 78; refine (igroupMask_c _ _ _ _ h1 h2 h3 h4).mono ?_; rintro e w' ⟨rfl, rfl⟩))
    go_ret
    exact ⟨reti HE.out.symm, rfl⟩

theorem sGroupMask_c (l s n : Int) (w : World) :
    Calls Try.prog 28 #[.int .i64 l, .int .i64 s, .int .i64 n] w fun e w' => e = .returned (.int .i64 (grMask l s n)) ∧ w = w' := by
  have hb : -1 ≤ grMany l s ∧ grMany l s ≤ 100 := by have := grMany_bd l s; omega
  obtain ⟨hb1, hb2⟩ := hb
  cases h : inR n 0 (grMany l s - 1) with
  | false =>
    go_enter Try.func28, Try.ntmps28
    go_wp2_with (first | (go_at_call 24; refine (sGroupsMany_c _ _ _).mono ?_; rintro e w' ⟨rfl, rfl⟩) | (go_at_call 76; refine (l1In_c _ _ _ _).mono ?_; rintro e w' ⟨rfl, rfl⟩))
    go_ret
    exact ⟨reti (by simp [grMask, h]), rfl⟩
  | true =>
    obtain ⟨l, s, n, rfl, rfl, rfl, h1, h2, h3, h4, h5, h6⟩ := grMask_in h
    have HE := Lib.hid (grMask_eq h)
    have e1 : ((n : Int) * s) = ((n * s : Nat) : Int) := by simp
    obtain ⟨b, hb⟩ : ∃ b, b = n * s := ⟨_, rfl⟩
    rw [← hb] at e1 h3
    have hp : (0 : Int) ≤ n * s := by omega
    have hp2 : (n : Int) * s ≤ 64 := by omega
    have HB := Lib.hid hb
    have E1 := Lib.hid e1
    clear hb e1
    go_enter Try.func28, Try.ntmps28
    go_wp2_with (first | (go_at_call 24; refine (sGroupsMany_c _ _ _).mono ?_; rintro e w' ⟨rfl, rfl⟩) | (go_at_call 76; refine (l1In_c _ _ _ _).mono ?_; rintro e w' ⟨rfl, rfl⟩))
    go_loop [7, 8] (fun m i => ∃ c : Nat, c ≤ min (b + s) l - b ∧ i = .int .i64 ((b + c : Nat) : Int) ∧ m = .int .i64 (orRange b c)) (fun _ i => 17 - (intOf i).toNat)
    case atStart => exact ⟨0, by omega, by rw [E1.out]; rfl, rfl⟩
    case round =>
      obtain ⟨c, hc, rfl, rfl⟩ := hrel
      have e1 := E1.out
      by_cases h : c < min (b + s) l - b
      · have hlt := orRange_lt b c (by omega)
        have h7 : ((b + c : Nat) : Int) < (n : Int) * s + s := by omega
        have h8 : ((b + c : Nat) : Int) < (l : Int) := by omega
        have hx := or_bit (orRange b c) (b + c) (by omega) (by omega)
        have HX := Lib.hid hx
        clear hx e1
        go_wp2
        all_goals
          go_round
          case rel => exact ⟨c + 1, by omega, by (congr 1 <;> omega), by rw [HX.out]; rfl⟩
          case measure => (simp [intOf]; try omega)
      · have hcc : c = min (b + s) l - b := by omega
        have HC := Lib.hid hcc
        have h7 : (n : Int) * s + s ≤ ((b + c : Nat) : Int) ∨ (l : Int) ≤ ((b + c : Nat) : Int) := by omega
        clear e1 hcc
        rcases h7 with h7 | h7
        all_goals
          go_wp2
        all_goals
          go_ret
          refine ⟨reti ?_, rfl⟩
          have e := HB.out
          rw [HE.out, gMask, ← e, ← HC.out]