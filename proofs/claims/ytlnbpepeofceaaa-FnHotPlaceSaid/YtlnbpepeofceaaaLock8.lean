/- The reference's HotPlace. -/
import Derived.Test.YtlnbpepeofceaaaLock6
import Derived.Test.YtlnbpepeofceaaaLock0
import Derived.Deep.QuietTactic
import Derived.WalkSmall
namespace Go.Proofs.Ytlnbpepeofceaaa
open Go.RowKit
set_option linter.unusedVariables false
set_option linter.unusedSimpArgs false

set_option maxRecDepth 100000 in
set_option maxHeartbeats 4000000 in
theorem sHotPlace_c (A Am : Option Addr) (c cm : Nat) (l : List Cd) (n : Int) (m : List Int) (w : World) (hA : RdC w w.heap.size A l) (hM : RdI w w.heap.size Am m) (hl : l.length ≤ 1000000000) (hml : m.length ≤ 1000000000) :
    Calls Try.prog 20 #[.slice A l.length c, .int .i64 n, .slice Am m.length cm] w fun e w' => e = .returned (.int .i64 (hotI (countsL l n m))) ∧ Below w.heap.size w w' := by
  go_enter Try.func20, Try.ntmps20
  go_wp2_with fail
  refine (sPlaceCounts_c A Am c cm l n m w hA hM hl hml).mono ?_
  rintro e w1 ⟨A1, c1, rfl, ho1, hb1⟩
  have hr := OwI.rd ho1
  have hC := countsL_len l n m
  generalize hCe : countsL l n m = C at *
  have HCE := Lib.hid hCe
  clear hCe
  clear ho1
  go_wp2
  go_loopw [7, 9] (fun bv kv wr => ∃ k : Nat, k ≤ C.length ∧ kv = .int .i64 k ∧ bv = .int .i64 (hotTo C k) ∧ Below w1.heap.size w1 wr) (fun _ kv _ => C.length - (intOf kv).toNat)
  case atStart => exact ⟨0, Nat.zero_le _, rfl, rfl, Below.refl _ _⟩
  case round =>
    obtain ⟨k, hk, rfl, rfl, hb⟩ := hrel
    by_cases hlt : k < C.length
    · obtain ⟨b, off, v, rfl, hbB, hv, c0⟩ := (hr.below hb).at_ hlt
      have hvk : v = cN C k := by rw [cN_get hlt] at hv; injection hv with hv; exact hv.symm
      subst hvk
      clear hv
      have HN := Lib.hid (show hotTo C (k + 1) = if 0 < cN C k ∧ (hotTo C k < 0 ∨ cN C (hotTo C k).toNat < cN C k) then (k : Int) else hotTo C k from rfl)
      have q1 : (k : Int) < (C.length : Int) := by omega
      have HLT := hotTo_lt C k
      generalize hotTo C k = B at *
      by_cases h0 : 0 < cN C k
      · rcases HLT with rfl | ⟨i, rfl, hi⟩
        · have HX := Lib.hid (show hotTo C (k + 1) = (k : Int) by rw [HN.out, if_pos ⟨h0, .inl (by omega)⟩])
          clear HN
          go_wp2_with fail
          go_quiet (fail)
          go_wp2
          go_roundw
          case rel => exact ⟨k + 1, by omega, by go_num, by rw [HX.out], below_drewN hb _⟩
          case measure => simp [intOf]; omega
        · obtain ⟨b2, off2, v2, e2, -, hv2, c2⟩ := (hr.below hb).at_ (k := i) (by omega)
          injection e2 with e2
          injection e2 with e2 e3
          subst e2 e3
          have hvk : v2 = cN C i := by rw [cN_get (show i < C.length by omega)] at hv2; injection hv2 with hv2; exact hv2.symm
          subst hvk
          clear hv2
          have q2 : (i : Int) < (C.length : Int) := by omega
          have q3 : ¬ (i : Int) < 0 := by omega
          by_cases hlt2 : cN C i < cN C k
          · have HX := Lib.hid (show hotTo C (k + 1) = (k : Int) by rw [HN.out, if_pos ⟨h0, .inr (by simpa using hlt2)⟩])
            clear HN
            go_wp2_with fail
            go_quiet (fail)
            go_wp2
            go_roundw
            case rel => exact ⟨k + 1, by omega, by go_num, by rw [HX.out], below_drewN hb _⟩
            case measure => simp [intOf]; omega
          · have HX := Lib.hid (show hotTo C (k + 1) = (i : Int) by rw [HN.out, if_neg (fun h => h.2.elim (fun h => by omega) (fun h => hlt2 (by simpa using h)))])
            clear HN
            go_wp2_with fail
            go_quiet (fail)
            go_wp2
            go_roundw
            case rel => exact ⟨k + 1, by omega, by go_num, by rw [HX.out], below_drewN hb _⟩
            case measure => simp [intOf]; omega
      · have HX := Lib.hid (show hotTo C (k + 1) = B by rw [HN.out, if_neg (fun h => h0 h.1)])
        have h0d : decide (0 < cN C k) = false := by simp; omega
        have h0e : (0 < cN C k) = False := by simp; omega
        clear HN HLT h0
        go_wp2_with fail
        go_quiet (fail)
        go_wp2
        go_roundw
        case rel => exact ⟨k + 1, by omega, by go_num, by rw [HX.out], below_drewN hb _⟩
        case measure => simp [intOf]; omega
    · obtain rfl : k = C.length := by omega
      go_wp2
      go_ret
      exact ⟨reti (by rw [HCE.out]; rfl), below_trans hb1 (Nat.le_refl _) hb⟩
end Go.Proofs.Ytlnbpepeofceaaa
