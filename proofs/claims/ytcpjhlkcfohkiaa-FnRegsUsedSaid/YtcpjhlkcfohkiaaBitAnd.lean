/- A bit of a number by shifting and masking. -/
import Derived.Test.YtcpjhlkcfohkiaaBits
namespace Go.Proofs.Ytcpjhlkcfohkiaa
open Go.RowKit
set_option linter.unusedVariables false
set_option linter.unusedSimpArgs false

theorem shr_cast (u r : Nat) : ((u : Int) / 2 ^ r) = ((u >>> r : Nat) : Int) := by
  rw [Nat.shiftRight_eq_div_pow]
  simp
theorem bit_and (u r : Nat) (hu : u < 65536) : bits .and .i64 ((u : Int) / 2 ^ r) 1 = (((u >>> r) % 2 : Nat) : Int) := by
  have h : u >>> r ≤ u := Nat.shiftRight_le u r
  rw [shr_cast, show (1 : Int) = ((1 : Nat) : Int) from rfl, bits_and64 _ _ (by omega) (by omega), Nat.and_one_is_mod]

end Go.Proofs.Ytcpjhlkcfohkiaa
