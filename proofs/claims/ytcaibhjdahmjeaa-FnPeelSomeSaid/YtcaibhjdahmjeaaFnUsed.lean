/- FnRegsUsed: the walk of the law. -/
import Derived.Test.YtcaibhjdahmjeaaSame
import Derived.Test.YtcaibhjdahmjeaaReads
import Derived.Test.YtcaibhjdahmjeaaILock7
import Derived.Test.YtcaibhjdahmjeaaSem
namespace Go.Proofs.Ytcaibhjdahmjeaa
open Go.RowKit
set_option linter.unusedVariables false
set_option linter.unusedSimpArgs false

theorem bit_tm0u (m k : Nat) : ((((m : Int) / 2 ^ k).tmod 2) == 0) = !m.testBit k := by
  have h := bit_tm m k
  have e : ((m : Int) / 2 ^ k) = ((m >>> k : Nat) : Int) := by
    rw [Nat.shiftRight_eq_div_pow]; simp
  rw [e, Int.tmod_eq_emod_of_nonneg (Int.natCast_nonneg _)] at h ⊢
  rw [← h]
  generalize m >>> k = q
  have : (q : Int) % 2 = 0 ∨ (q : Int) % 2 = 1 := by omega
  rcases this with h | h <;> rw [h] <;> rfl

theorem iLockRegs_c (A Am : Option Addr) (ca cm : Nat) (l : List Cd) (n : Int) (mem : List Int) (w : World) (hA : RdC w w.heap.size A l) (hM : RdI w w.heap.size Am mem) (hl : l.length ≤ 1000000000) (hml : mem.length ≤ 1000000000) (hok : lockOk l n mem = true) :
    Calls Try.prog 24 #[.slice A l.length ca, .int .i64 n, .slice Am mem.length cm] w fun e w' => ∃ (z : IW) (T : Option Addr) (tc : Nat) (U : Option Addr) (uc : Nat), e = .returned (.slice (some ⟨z.rg, 0, none⟩) z.n z.rc) ∧ z.n = n.toNat ∧ IR w' z T tc U uc (lockS l n.toNat mem) ∧ Below w.heap.size w w' := by
  have HOK := Lib.hid hok
  clear hok
  go_enter Try.func24, Try.ntmps24
  go_wp2_with fail
  refine (runLock_c A Am ca cm l n mem w hA hM hl hml).mono ?_
  rintro e w1 (⟨hok, hr⟩ | ⟨hok, rfl, hb1⟩)
  · obtain ⟨z, T, tc, U, uc, rfl, hzB, hzl, hzn, hS, hb1⟩ := hr
    obtain ⟨-, c1, -, -, -, -, -⟩ := hS.cells
    have HS := Lib.hid hS
    have HN := Lib.hid hzn
    clear hS hok hzn
    go_wp2
    go_ret
    exact ⟨z, T, tc, U, uc, rfl, HN.out, HS.out, hb1⟩
  · rw [HOK.out] at hok
    cases hok