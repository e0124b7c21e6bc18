/- Bit operations on small numbers, in the walk's own form. -/
import Derived.Test.YtfgbbajkdpideaaMem
import Derived.Test.YtfgbbajkdpideaaSyn
import Derived.RowKit3
namespace Go.Proofs.Ytfgbbajkdpideaa
open Go.RowKit
set_option linter.unusedVariables false
set_option linter.unusedSimpArgs false

theorem ofInt_nat64 (a : Nat) (h : a < 2 ^ 64) : (BitVec.ofInt 64 (a : Int)).toNat = a := by
  rw [BitVec.toNat_ofInt]
  omega
theorem wrap64_small (n : Int) (h0 : 0 ≤ n) (h1 : n < 9223372036854775808) : IntKind.i64.wrap n = n := by
  simp [IntKind.wrap, IntKind.bits, IntKind.signed]; omega
theorem bits_or64 (a b : Nat) (ha : a < 4611686018427387904) (hb : b < 4611686018427387904) : bits .or .i64 (a : Int) (b : Int) = ((a ||| b : Nat) : Int) := by
  have h : a ||| b < 2 ^ 62 := Nat.or_lt_two_pow (by simpa using ha) (by simpa using hb)
  show IntKind.i64.wrap ((BitVec.ofInt 64 (a : Int) ||| BitVec.ofInt 64 (b : Int)).toNat : Int) = _
  rw [BitVec.toNat_or, ofInt_nat64 a (by omega), ofInt_nat64 b (by omega)]
  exact wrap64_small _ (by omega) (by omega)
theorem bits_and64 (a b : Nat) (ha : a < 4611686018427387904) (hb : b < 4611686018427387904) : bits .and .i64 (a : Int) (b : Int) = ((a &&& b : Nat) : Int) := by
  have h : a &&& b ≤ a := Nat.and_le_left
  show IntKind.i64.wrap ((BitVec.ofInt 64 (a : Int) &&& BitVec.ofInt 64 (b : Int)).toNat : Int) = _
  rw [BitVec.toNat_and, ofInt_nat64 a (by omega), ofInt_nat64 b (by omega)]
  exact wrap64_small _ (by omega) (by omega)
theorem bits_andNot64 (a b : Nat) (ha : a < 4611686018427387904) (hb : b < 4611686018427387904) : bits .andNot .i64 (a : Int) (b : Int) = ((mdiff a b : Nat) : Int) := by
  have h := mdiff_le a b
  have e : (BitVec.ofInt 64 (a : Int) &&& ~~~BitVec.ofInt 64 (b : Int)).toNat = mdiff a b := by
    apply Nat.eq_of_testBit_eq
    intro i
    rw [testBit_mdiff, BitVec.toNat_and, Nat.testBit_and, ofInt_nat64 a (by omega)]
    by_cases hi : i < 64
    · have : (~~~BitVec.ofInt 64 (b : Int)).toNat.testBit i = !b.testBit i := by
        rw [BitVec.testBit_toNat, BitVec.getLsbD_not, ← BitVec.testBit_toNat, ofInt_nat64 b (by omega)]
        simp [hi]
      rw [this]
    · have : a.testBit i = false := Nat.testBit_lt_two_pow (Nat.lt_of_lt_of_le (show a < 2 ^ 64 by omega) (Nat.pow_le_pow_right (by decide) (by omega)))
      simp [this]
  show IntKind.i64.wrap ((BitVec.ofInt 64 (a : Int) &&& ~~~BitVec.ofInt 64 (b : Int)).toNat : Int) = _
  rw [e]
  exact wrap64_small _ (by omega) (by omega)
theorem wrap64_pow (k : Nat) (hk : k ≤ 61) : wrap64 (2 ^ k) = ((2 ^ k : Nat) : Int) := by
  have h : 2 ^ k ≤ 2 ^ 61 := Nat.pow_le_pow_right (by decide) hk
  have e : ((2 : Int) ^ k) = ((2 ^ k : Nat) : Int) := by simp
  obtain ⟨m, hm⟩ : ∃ m, 2 ^ k = m := ⟨_, rfl⟩
  rw [hm] at h e ⊢
  unfold wrap64
  rw [e]
  omega
theorem pow_small (k : Nat) (hk : k ≤ 61) : 2 ^ k < 4611686018427387904 := by
  have h : 2 ^ k ≤ 2 ^ 61 := Nat.pow_le_pow_right (by decide) hk
  omega
/-- 'mask | 1 << k', as the walk has it. -/
theorem or_bit (a k : Nat) (ha : a < 4611686018427387904) (hk : k ≤ 61) : bits .or .i64 (a : Int) (wrap64 (2 ^ k)) = ((a ||| 2 ^ k : Nat) : Int) := by
  rw [wrap64_pow k hk, bits_or64 a _ ha (pow_small k hk)]

theorem shr_cast (u r : Nat) : ((u : Int) / 2 ^ r) = ((u >>> r : Nat) : Int) := by
  rw [Nat.shiftRight_eq_div_pow]
  simp
theorem bit_and (u r : Nat) (hu : u < 65536) : bits .and .i64 ((u : Int) / 2 ^ r) 1 = (((u >>> r) % 2 : Nat) : Int) := by
  have h : u >>> r ≤ u := Nat.shiftRight_le u r
  rw [shr_cast, show (1 : Int) = ((1 : Nat) : Int) from rfl, bits_and64 _ _ (by omega) (by omega), Nat.and_one_is_mod]

theorem sMaskAll_c (n : Int) (w : World) :
    Calls Try.prog 63 #[.int .i64 n] w fun e w' => e = .returned (.int .i64 (maskAllI n)) ∧ w = w' := by
  cases h : inR n 1 8 with
  | false =>
    go_enter Try.func63, Try.ntmps63
    go_wp2_with (go_at_call 51; refine (l1In_c _ _ _ _).mono ?_; rintro e w' ⟨rfl, rfl⟩)
    go_ret
    exact ⟨reti (by simp [maskAllI, h]), rfl⟩
  | true =>
    have h' := inR_iff.1 h
    have h8 : n = 1 ∨ n = 2 ∨ n = 3 ∨ n = 4 ∨ n = 5 ∨ n = 6 ∨ n = 7 ∨ n = 8 := by omega
    clear h h'
    rcases h8 with rfl | rfl | rfl | rfl | rfl | rfl | rfl | rfl
    all_goals
      go_enter Try.func63, Try.ntmps63
      go_wp2_with (go_at_call 51; refine (l1In_c _ _ _ _).mono ?_; rintro e w' ⟨rfl, rfl⟩)
      go_ret
      exact ⟨reti (by decide), rfl⟩

def MORel (xs : List Int) (n : Int) (mv iv : Value) : Prop :=
  ∃ k : Nat, k ≤ xs.length ∧ iv = .int .i64 k ∧ mv = .int .i64 (orBits (xs.take k)) ∧ allIn (xs.take k) n = true

def grMany (l s : Int) : Int := if inR l 1 8 && inR s 1 8 then (l + s - 1) / s else -1

/-- The set of c lanes from lo on. -/
def orRange (lo : Nat) : Nat → Nat
  | 0 => 0
  | c + 1 => orRange lo c ||| 2 ^ (lo + c)
theorem orRange_lt (lo : Nat) : ∀ c, lo + c ≤ 16 → orRange lo c < 2 ^ 16
  | 0, _ => by simp [orRange]
  | c + 1, h => Nat.or_lt_two_pow (orRange_lt lo c (by omega)) (Nat.pow_lt_pow_right (by decide) (by omega))

theorem grMany_bd (l s : Int) : -1 ≤ grMany l s ∧ grMany l s ≤ 8 := by
  unfold grMany
  split
  · rename_i h
    simp only [Bool.and_eq_true, inR_iff] at h
    have : (l + s - 1) / s * s ≤ l + s - 1 := Int.ediv_mul_le _ (by omega)
    have h0 : 0 ≤ (l + s - 1) / s := Int.ediv_nonneg (by omega) (by omega)
    refine ⟨by omega, ?_⟩
    rcases (show s = 1 ∨ 2 ≤ s by omega) with h1 | h1
    · subst h1; omega
    · have : (l + s - 1) / s * 2 ≤ (l + s - 1) / s * s := Int.mul_le_mul_of_nonneg_left h1 h0
      omega
  · omega

/-- The mask of group n of groups of s lanes out of l. -/
def grMask (l s n : Int) : Int := if inR n 0 (grMany l s - 1) then ((orRange (n.toNat * s.toNat) (min (n.toNat * s.toNat + s.toNat) l.toNat - n.toNat * s.toNat) : Nat) : Int) else -1
def gMask (l s n : Nat) : Nat := orRange (n * s) (min (n * s + s) l - n * s)

theorem grMask_in {l s n : Int} (h : inR n 0 (grMany l s - 1) = true) : ∃ a b c : Nat, l = a ∧ s = b ∧ n = c ∧ a ≤ 8 ∧ b ≤ 8 ∧ c * b ≤ 8 ∧ c ≤ 8 ∧ 1 ≤ b ∧ 1 ≤ a := by
  rw [inR_iff] at h
  have hb := grMany_bd l s
  by_cases hc : (inR l 1 8 && inR s 1 8) = true
  · have e : grMany l s = (l + s - 1) / s := by simp only [grMany, hc, if_true]
    simp only [Bool.and_eq_true, inR_iff] at hc
    refine ⟨l.toNat, s.toNat, n.toNat, by omega, by omega, by omega, by omega, by omega, ?_, by omega, by omega, by omega⟩
    have h1 : (l + s - 1) / s * s ≤ l + s - 1 := Int.ediv_mul_le _ (by omega)
    have h2 : (n + 1) * s ≤ (l + s - 1) / s * s := Int.mul_le_mul_of_nonneg_right (by omega) (by omega)
    have h3 : ((n.toNat * s.toNat : Nat) : Int) = n * s := by
      rw [Int.natCast_mul, Int.toNat_of_nonneg (by omega), Int.toNat_of_nonneg (by omega)]
    rw [Int.add_mul] at h2
    omega
  · have e : grMany l s = -1 := by simp only [grMany, hc]; rfl
    omega

theorem grMask_eq {a b c : Nat} (h : inR (c : Int) 0 (grMany a b - 1) = true) : grMask a b c = ((gMask a b c : Nat) : Int) := by
  simp only [grMask, h, if_true, gMask, Int.toNat_natCast]

end Go.Proofs.Ytfgbbajkdpideaa
