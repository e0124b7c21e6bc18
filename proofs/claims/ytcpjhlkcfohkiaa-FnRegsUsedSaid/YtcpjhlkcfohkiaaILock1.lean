/- The program's lanes of a mask. -/
import Derived.Test.YtcpjhlkcfohkiaaLock0
import Derived.Test.YtcpjhlkcfohkiaaRetB
import Derived.Test.YtcpjhlkcfohkiaaBitAnd
import Derived.Test.YtcpjhlkcfohkiaaSValid
namespace Go.Proofs.Ytcpjhlkcfohkiaa
open Go.RowKit
set_option linter.unusedVariables false
set_option linter.unusedSimpArgs false

def natsI (xs : List Nat) : List Int := xs.map fun (k : Nat) => (k : Int)
def LOfRel (w : World) (m : Nat) (lv kv : Value) (wr : World) : Prop :=
  ∃ (k : Nat) (A : Option Addr) (c : Nat), k ≤ 8 ∧ kv = .int .i64 k ∧ lv = .slice A (lanesTo m k).length c ∧ OI wr w.heap.size A (lanesTo m k).length c (natsI (lanesTo m k)) ∧ Below w.heap.size w wr

theorem bit_one (m k : Nat) : (((((m >>> k) % 2 : Nat) : Int)) == 1) = m.testBit k := by
  have h2 : m.testBit k = decide ((m >>> k) % 2 = 1) := by
    have : (m >>> k).testBit 0 = m.testBit k := by rw [Nat.testBit_shiftRight]; simp
    rw [← this, Nat.testBit_zero]
  rw [h2]
  generalize m >>> k = q
  cases h : decide (q % 2 = 1) with
  | true => rw [beq_iff_eq]; have := of_decide_eq_true h; omega
  | false => rw [beq_eq_false_iff_ne]; have := of_decide_eq_false h; omega

set_option maxRecDepth 100000 in
set_option maxHeartbeats 1000000 in
theorem lanesOf_c (m : Nat) (w : World) (hm : m < 65536) :
    Calls Try.prog 137 #[.int .i64 m] w (fun e w' => ∃ A c, e = .returned (.slice A (lanesOf m).length c) ∧ OI w' w.heap.size A (lanesOf m).length c (lanesI m) ∧ Below w.heap.size w w') := by
  go_enter Try.func137, Try.ntmps137
  go_wp2
  go_loopw [3, 5] (fun lv kv wr => LOfRel w m lv kv wr) (fun _ kv _ => 8 - (intOf kv).toNat)
  case atStart => exact ⟨0, none, 0, Nat.zero_le _, rfl, rfl, OI.nil_ _ _, Below.refl _ _⟩
  case round =>
    obtain ⟨k, A, c, hk, rfl, rfl, ho, hb⟩ := hrel
    have hs := hb.size
    by_cases hlt : k < 8
    · have hba := bit_and m k hm
      have hb1 := bit_one m k
      generalize ((((m >>> k) % 2 : Nat)) : Int) = qb at hba hb1
      have hll := lanesTo_len m k
      have HL := Lib.hid (lanesTo_succ m k)
      have HO := Lib.hid (ho.alloc (.cells #[.int .i64 k] 3))
      cases hbit : m.testBit k with
      | true =>
        rw [hbit] at hb1
        have HB := Lib.hid (show lanesTo m (k + 1) = lanesTo m k ++ [k] by rw [HL.out, hbit]; rfl)
        have hlen : (lanesTo m (k + 1)).length = (lanesTo m k).length + 1 := by rw [HB.out]; simp
        clear hbit
        go_wp2_with (at_builtin; refine app_int rfl _ _ rfl w.heap.size A _ c _ HO.out rfl k wr.heap.size 1 rfl ?hc ?hn ?hb ?_)
        case hc => simp [go_sem]
        case hn => omega
        case hb => simp; omega
        intro A' c' w2 ho2 hg2
        have hb2 := below_app hb hs ho (Nat.le_refl _) hg2
        go_wp2
        go_roundw
        case rel => exact ⟨k + 1, A', c', by omega, by go_num, by rw [hlen], by rw [hlen]; unfold natsI at *; rw [HB.out, List.map_append]; exact ho2, hb2⟩
        case measure => simp [intOf]; omega
      | false =>
        rw [hbit] at hb1
        have HB := Lib.hid (show lanesTo m (k + 1) = lanesTo m k by rw [HL.out, hbit]; rfl)
        clear hbit
        go_wp2
        go_roundw
        case rel => exact ⟨k + 1, A, c, by omega, by go_num, by rw [HB.out], by rw [HB.out]; exact ho, hb⟩
        case measure => simp [intOf]; omega
    · obtain rfl : k = 8 := by omega
      go_wp2
      go_ret
      exact ⟨A, c, rfl, ho, hb⟩
end Go.Proofs.Ytcpjhlkcfohkiaa
