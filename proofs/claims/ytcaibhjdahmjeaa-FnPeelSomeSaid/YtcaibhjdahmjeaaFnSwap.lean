/- FnSwapRegs: the walk of the law. -/
import Derived.Test.YtcaibhjdahmjeaaSame
import Derived.Test.YtcaibhjdahmjeaaNames1
import Derived.Test.YtcaibhjdahmjeaaSem
namespace Go.Proofs.Ytcaibhjdahmjeaa
open Go.RowKit
set_option linter.unusedVariables false
set_option linter.unusedSimpArgs false

set_option maxRecDepth 100000 in
set_option maxHeartbeats 1600000 in
theorem sameCodes_c (A A2 : Option Addr) (c c2 : Nat) (l : List Cd) (w : World) (hA : RdC w w.heap.size A l) (hA2 : RdC w w.heap.size A2 l) (hl : l.length ≤ 1000000000) :
    Calls Try.prog 17 #[.slice A l.length c, .slice A2 l.length c2] w fun e w' => e = .returned (.bool true) ∧ Below w.heap.size w w' := by
  go_enter Try.func17, Try.ntmps17
  go_wp2
  go_loopw [5] (fun i wr => ∃ k : Nat, k ≤ l.length ∧ i = .int .i64 k ∧ Below w.heap.size w wr) (fun i _ => l.length - (intOf i).toNat)
  case atStart => exact ⟨0, Nat.zero_le _, rfl, Below.refl _ _⟩
  case round =>
    obtain ⟨k, hk, rfl, hb⟩ := hrel
    by_cases hlt : k < l.length
    · obtain ⟨b, off, x, rfl, hbB, hx, c0, c1, c2', c3⟩ := (hA.below hb).at_ hlt
      obtain ⟨b2, off2, y, rfl, hbB2, hy, d0, d1, d2, d3⟩ := (hA2.below hb).at_ hlt
      rw [hx] at hy
      injection hy with hy
      subst hy
      clear hx
      go_wp2_with fail
      go_quiet (fail)
      go_wp2
      go_roundw
      case rel => exact ⟨k + 1, by omega, by go_num, hb.trans ⟨rfl, rfl, rfl, Nat.le_refl _, fun _ _ => rfl⟩⟩
      case measure => simp [intOf]; omega
    · go_wp2
      go_ret
      exact ⟨rfl, hb⟩