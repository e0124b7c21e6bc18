/- Masks of lists, in the reference. -/
import Derived.Test.YtcpjhlkcfohkiaaSyn
import Derived.Test.YtcpjhlkcfohkiaaSmall
import Derived.Test.YtcpjhlkcfohkiaaBits
namespace Go.Proofs.Ytcpjhlkcfohkiaa
open Go.RowKit
set_option linter.unusedVariables false
set_option linter.unusedSimpArgs false

theorem sMaskAll_c (n : Int) (w : World) :
    Calls Try.prog 92 #[.int .i64 n] w fun e w' => e = .returned (.int .i64 (maskAllI n)) ∧ w = w' := by
  cases h : inR n 1 8 with
  | false =>
    go_enter Try.func92, Try.ntmps92
    go_wp2_with (go_at_call 76; refine (l1In_c _ _ _ _).mono ?_; rintro e w' ⟨rfl, rfl⟩)
    go_ret
    exact ⟨reti (by simp [maskAllI, h]), rfl⟩
  | true =>
    have h' := inR_iff.1 h
    have h8 : n = 1 ∨ n = 2 ∨ n = 3 ∨ n = 4 ∨ n = 5 ∨ n = 6 ∨ n = 7 ∨ n = 8 := by omega
    clear h h'
    rcases h8 with rfl | rfl | rfl | rfl | rfl | rfl | rfl | rfl
    all_goals
      go_enter Try.func92, Try.ntmps92
      go_wp2_with (go_at_call 76; refine (l1In_c _ _ _ _).mono ?_; rintro e w' ⟨rfl, rfl⟩)
      go_ret
      exact ⟨reti (by decide), rfl⟩

def MORel (xs : List Int) (n : Int) (mv iv : Value) : Prop :=
  ∃ k : Nat, k ≤ xs.length ∧ iv = .int .i64 k ∧ mv = .int .i64 (orBits (xs.take k)) ∧ allIn (xs.take k) n = true

set_option maxHeartbeats 1000000 in
theorem sMaskOf_c (A : Option Addr) (c : Nat) (xs : List Int) (n : Int) (w : World) (hA : RdI w w.heap.size A xs) (hl : xs.length ≤ 1000000000) :
    Calls Try.prog 91 #[.slice A xs.length c, .int .i64 n] w fun e w' => e = .returned (.int .i64 (maskOfI xs n)) ∧ w = w' := by
  cases hn : inR n 1 8 with
  | false =>
    go_enter Try.func91, Try.ntmps91
    go_wp2_with (go_at_call 76; refine (l1In_c _ _ _ _).mono ?_; rintro e w' ⟨rfl, rfl⟩)
    go_ret
    exact ⟨reti (by simp [maskOfI, hn]), rfl⟩
  | true =>
    have hn' := inR_iff.1 hn
    obtain ⟨n1, n8⟩ := hn'
    go_enter Try.func91, Try.ntmps91
    go_wp2_with (go_at_call 76; refine (l1In_c _ _ _ _).mono ?_; rintro e w' ⟨rfl, rfl⟩)
    have HN := Lib.hid hn
    clear hn
    go_loop [5, 6] (fun mv iv => MORel xs n mv iv) (fun _ i => xs.length - (intOf i).toNat)
    case atStart => exact ⟨0, Nat.zero_le _, rfl, rfl, rfl⟩
    case round =>
      obtain ⟨k, hk, rfl, rfl, hall⟩ := hrel
      by_cases hlt : k < xs.length
      · obtain ⟨b, off, x, rfl, hb, hx, hc⟩ := hA.at_ hlt
        have hm := orBits_lt n8 hall
        have HA := Lib.hid hall
        have HO := Lib.hid (orBits_take hx)
        have HT := Lib.hid (allIn_take (n := n) hx)
        have HX := Lib.hid hx
        generalize orBits (xs.take k) = m at *
        clear hall hx
        cases hr : inR x 0 (n - 1) with
        | false =>
          have HF := Lib.hid (allIn_bad HX.out hr)
          go_wp2_with (go_at_call 76; refine (l1In_c _ _ _ _).mono ?_; rintro e w' ⟨rfl, rfl⟩)
          go_ret
          exact ⟨reti (by simp [maskOfI, HF.out]), rfl⟩
        | true =>
          obtain ⟨x1, x2⟩ := inR_iff.1 hr
          obtain ⟨y, rfl⟩ := Int.eq_ofNat_of_zero_le x1
          have HR := Lib.hid hr
          have y7 : y ≤ 7 := by omega
          go_wp2_with (go_at_call 76; refine (l1In_c _ _ _ _).mono ?_; rintro e w' ⟨rfl, rfl⟩)
          go_round
          case rel =>
            have ho := HO.out
            rw [Int.toNat_natCast] at ho
            exact ⟨k + 1, by omega, by go_num, by rw [ho, or_bit _ _ (by omega) (by omega)], by rw [HT.out, HA.out, HR.out]; rfl⟩
          case measure => simp [intOf]; omega
      · obtain rfl : k = xs.length := by omega
        rw [List.take_length] at hall ⊢
        have HA := Lib.hid hall
        clear hall
        go_wp2
        go_ret
        exact ⟨reti (by simp [maskOfI, HN.out, HA.out]), rfl⟩
end Go.Proofs.Ytcpjhlkcfohkiaa
