/- Bit operations on small numbers, in the walk's own form. -/
import Derived.Test.YtcpjhlkcfohkiaaSmall
import Derived.Test.YtcpjhlkcfohkiaaSyn
namespace Go.Proofs.Ytcpjhlkcfohkiaa
open Go.RowKit
set_option linter.unusedVariables false
set_option linter.unusedSimpArgs false

theorem ofInt_nat64 (a : Nat) (h : a < 2 ^ 64) : (BitVec.ofInt 64 (a : Int)).toNat = a := by
  rw [BitVec.toNat_ofInt]
  omega
theorem wrap64_small (n : Int) (h0 : 0 ≤ n) (h1 : n < 9223372036854775808) : IntKind.i64.wrap n = n := by
  simp [IntKind.wrap, IntKind.bits, IntKind.signed]; omega
theorem bits_or64 (a b : Nat) (ha : a < 4611686018427387904) (hb : b < 4611686018427387904) : bits .or .i64 (a : Int) (b : Int) = ((a ||| b : Nat) : Int) := by
  have h : a ||| b < 2 ^ 62 := Nat.or_lt_two_pow (by simpa using ha) (by simpa using hb)
  show IntKind.i64.wrap ((BitVec.ofInt 64 (a : Int) ||| BitVec.ofInt 64 (b : Int)).toNat : Int) = _
  rw [BitVec.toNat_or, ofInt_nat64 a (by omega), ofInt_nat64 b (by omega)]
  exact wrap64_small _ (by omega) (by omega)
theorem bits_and64 (a b : Nat) (ha : a < 4611686018427387904) (hb : b < 4611686018427387904) : bits .and .i64 (a : Int) (b : Int) = ((a &&& b : Nat) : Int) := by
  have h : a &&& b ≤ a := Nat.and_le_left
  show IntKind.i64.wrap ((BitVec.ofInt 64 (a : Int) &&& BitVec.ofInt 64 (b : Int)).toNat : Int) = _
  rw [BitVec.toNat_and, ofInt_nat64 a (by omega), ofInt_nat64 b (by omega)]
  exact wrap64_small _ (by omega) (by omega)
theorem bits_andNot64 (a b : Nat) (ha : a < 4611686018427387904) (hb : b < 4611686018427387904) : bits .andNot .i64 (a : Int) (b : Int) = ((mdiff a b : Nat) : Int) := by
  have h := mdiff_le a b
  have e : (BitVec.ofInt 64 (a : Int) &&& ~~~BitVec.ofInt 64 (b : Int)).toNat = mdiff a b := by
    apply Nat.eq_of_testBit_eq
    intro i
    rw [testBit_mdiff, BitVec.toNat_and, Nat.testBit_and, ofInt_nat64 a (by omega)]
    by_cases hi : i < 64
    · have : (~~~BitVec.ofInt 64 (b : Int)).toNat.testBit i = !b.testBit i := by
        rw [BitVec.testBit_toNat, BitVec.getLsbD_not, ← BitVec.testBit_toNat, ofInt_nat64 b (by omega)]
        simp [hi]
      rw [this]
    · have : a.testBit i = false := Nat.testBit_lt_two_pow (Nat.lt_of_lt_of_le (show a < 2 ^ 64 by omega) (Nat.pow_le_pow_right (by decide) (by omega)))
      simp [this]
  show IntKind.i64.wrap ((BitVec.ofInt 64 (a : Int) &&& ~~~BitVec.ofInt 64 (b : Int)).toNat : Int) = _
  rw [e]
  exact wrap64_small _ (by omega) (by omega)
theorem wrap64_pow (k : Nat) (hk : k ≤ 61) : wrap64 (2 ^ k) = ((2 ^ k : Nat) : Int) := by
  have h : 2 ^ k ≤ 2 ^ 61 := Nat.pow_le_pow_right (by decide) hk
  have e : ((2 : Int) ^ k) = ((2 ^ k : Nat) : Int) := by simp
  obtain ⟨m, hm⟩ : ∃ m, 2 ^ k = m := ⟨_, rfl⟩
  rw [hm] at h e ⊢
  unfold wrap64
  rw [e]
  omega
theorem pow_small (k : Nat) (hk : k ≤ 61) : 2 ^ k < 4611686018427387904 := by
  have h : 2 ^ k ≤ 2 ^ 61 := Nat.pow_le_pow_right (by decide) hk
  omega
/-- 'mask | 1 << k', as the walk has it. -/
theorem or_bit (a k : Nat) (ha : a < 4611686018427387904) (hk : k ≤ 61) : bits .or .i64 (a : Int) (wrap64 (2 ^ k)) = ((a ||| 2 ^ k : Nat) : Int) := by
  rw [wrap64_pow k hk, bits_or64 a _ ha (pow_small k hk)]
end Go.Proofs.Ytcpjhlkcfohkiaa
