/- LiveMost of both packages. -/
import Derived.Test.YtcaibhjdahmjeaaLiveB
import Derived.Test.YtcaibhjdahmjeaaLiveLaw
import Derived.Test.YtcaibhjdahmjeaaProfI
namespace Go.Proofs.Ytcaibhjdahmjeaa
open Go.RowKit
set_option linter.unusedVariables false
set_option linter.unusedSimpArgs false

def bitsTo (m : Nat) : Nat → Nat
  | 0 => 0
  | r + 1 => bitsTo m r + (if m.testBit r then 1 else 0)
theorem bits4 : ∀ m : Nat, m < 16 → bitsTo m 4 = (lanesOf m).length := by decide +kernel
theorem bitsTo_le (m : Nat) : ∀ r, bitsTo m r ≤ r
  | 0 => Nat.le_refl _
  | r + 1 => by
    have := bitsTo_le m r
    simp only [bitsTo]
    split <;> omega
theorem bitsTo_step (m r : Nat) (hr : r < 4) : IntKind.i64.wrap ((bitsTo m r : Int) + (((m : Int) / 2 ^ r).tmod 2)) = ((bitsTo m (r + 1) : Nat) : Int) := by
  have h := bit_tm m r
  have hl := bitsTo_le m r
  have e : ((m : Int) / 2 ^ r).tmod 2 = if m.testBit r then 1 else 0 := by
    have e1 : ((m : Int) / 2 ^ r) = ((m >>> r : Nat) : Int) := by
      rw [Nat.shiftRight_eq_div_pow]; simp
    rw [e1] at h ⊢
    have e2 : (((m >>> r : Nat) : Int)).tmod 2 = ((m >>> r % 2 : Nat) : Int) := rfl
    rw [e2] at h ⊢
    have e3 := Nat.mod_lt (m >>> r) (show 0 < 2 by decide)
    cases hb : m.testBit r with
    | true => rw [hb] at h; simpa using h
    | false =>
      rw [hb] at h
      have : ((m >>> r % 2 : Nat) : Int) ≠ 1 := by simpa using h
      have hz : m >>> r % 2 = 0 := by
        have h1 : m >>> r % 2 ≠ 1 := fun e => this (by rw [e]; rfl)
        clear this h e1 e2
        generalize m >>> r % 2 = z at *
        omega
      rw [hz]
      rfl
  rw [e]
  simp only [bitsTo]
  split
  · rw [IntWalk.i64_in _ (by omega)]; simp
  · rw [IntWalk.i64_in _ (by omega)]; simp
theorem lsL_ok {l : List Cd} (hp : pv l = true) : (lsL l).length = l.length + 1 ∧ ∀ k, k < l.length + 1 → (lsL l)[k]? = some (liveFix l k : Int) := by
  have e : lsL l = lvRow (liveFix l) (l.length + 1) := by simp [lsL, hp]
  rw [e]
  exact ⟨lvRow_len _ _, fun k hk => lvRow_get _ hk⟩
theorem lsL_len (l : List Cd) : (lsL l).length ≤ 41 := by
  cases hp : pv l with
  | false => simp [lsL, hp]
  | true => rw [(lsL_ok hp).1]; have := (pv_iff.1 hp).1; omega

set_option maxRecDepth 100000 in
set_option maxHeartbeats 4000000 in
theorem sLiveMost_c (A : Option Addr) (c : Nat) (l : List Cd) (w : World) (hA : RdC w w.heap.size A l) (hl : l.length ≤ 1000000000) :
    Calls Try.prog 63 #[.slice A l.length c] w fun e w' => e = .returned (.int .i64 (mostL l)) ∧ Below w.heap.size w w' := by
  cases hp : pv l with
  | false =>
    have HD := Lib.hid (show lsL l = [] by simp [lsL, hp])
    have HM := Lib.hid (show mostL l = -1 by simp [mostL, hp])
    go_enter Try.func63, Try.ntmps63
    go_wp2_with fail
    refine (sLiveSetsA_c A c l w hA hl).mono ?_
    rintro e w1 ⟨A2, c2, rfl, o2, b1⟩
    rw [HD.out]
    clear o2
    go_wp2
    go_loop [3, 5] (fun mv kv => mv = .int .i64 (-1) ∧ kv = .int .i64 0) (fun _ _ => 0)
    case atStart => exact ⟨rfl, rfl⟩
    case round =>
      obtain ⟨rfl, rfl⟩ := hrel
      go_wp2
      go_ret
      exact ⟨reti HM.out.symm, b1⟩
  | true =>
    obtain ⟨hln, hget⟩ := lsL_ok hp
    have hM := (most_law hp).1
    have hb16 := (fix_is hp).1.b16
    have h40 := (pv_iff.1 hp).1
    have HM := Lib.hid hM
    have HG := Lib.hid hget
    have HB := Lib.hid hb16
    clear hM hget hb16 hp
    go_enter Try.func63, Try.ntmps63
    go_wp2_with fail
    refine (sLiveSetsA_c A c l w hA hl).mono ?_
    rintro e w1 ⟨A2, c2, rfl, o2, b1⟩
    have r2 := OwI.rd o2
    clear o2
    generalize lsL l = D at *
    go_wp2
    go_loop [3, 5] (fun mv kv => ∃ k : Nat, k ≤ D.length ∧ kv = .int .i64 k ∧ mv = .int .i64 (if k = 0 then -1 else (mostTo l (liveFix l) k : Int))) (fun _ kv => D.length - (intOf kv).toNat)
    case atStart => exact ⟨0, Nat.zero_le _, rfl, rfl⟩
    case round =>
      obtain ⟨k, hk, rfl, rfl⟩ := hrel
      by_cases hlt : k < D.length
      · obtain ⟨pb, po, x, rfl, -, hx, hc⟩ := r2.at_ hlt
        rw [HG.out k (by omega)] at hx
        injection hx with hx
        have hkI : (k : Int) < (D.length : Int) := by omega
        have hm16 := HB.out k
        have HS := Lib.hid (show mostTo l (liveFix l) (k + 1) = max (mostTo l (liveFix l) k) (lanesOf (liveFix l k)).length from rfl)
        have HV := Lib.hid (show -1 ≤ (if k = 0 then -1 else (mostTo l (liveFix l) k : Int)) ∧ (if k = 0 then -1 else (mostTo l (liveFix l) k : Int)) ≤ 4 by
          have := mostTo_le (l := l) HB.out k
          split <;> omega)
        have HV0 := Lib.hid (show (k = 0 → (if k = 0 then -1 else (mostTo l (liveFix l) k : Int)) = -1 ∧ mostTo l (liveFix l) k = 0) ∧ (k ≠ 0 → (if k = 0 then -1 else (mostTo l (liveFix l) k : Int)) = (mostTo l (liveFix l) k : Int)) from ⟨fun h => by subst h; exact ⟨rfl, rfl⟩, fun h => by rw [if_neg h]⟩)
        generalize (if k = 0 then -1 else (mostTo l (liveFix l) k : Int)) = mv at *
        subst hx
        have H4 := Lib.hid (bits4 _ hm16)
        generalize liveFix l k = m at hc hm16 HS H4
        go_wp2
        go_loop [6, 7] (fun nv rv => ∃ r : Nat, r ≤ 4 ∧ rv = .int .i64 r ∧ nv = .int .i64 (bitsTo m r)) (fun _ rv => 4 - (intOf rv).toNat)
        case atStart => exact ⟨0, by omega, rfl, rfl⟩
        case round =>
          obtain ⟨r, hr, rfl, rfl⟩ := hrel
          by_cases hlr : r < 4
          · have hrI : (r : Int) < 4 := by omega
            have hst := bitsTo_step m r hlr
            go_wp2
            go_round
            case rel => exact ⟨r + 1, by omega, by go_num, by first | rfl | rw [hst]⟩
            case measure => simp [intOf]; omega
          · obtain rfl : r = 4 := by omega
            go_wp2
            go_round
            case rel =>
              refine ⟨k + 1, by omega, by go_num, ?_⟩
              rw [if_neg (show ¬ (k + 1 = 0) by omega), HS.out]
              have h0 := HV0.out
              have hv := HV.out
              have h4 := H4.out
              generalize mostTo l (liveFix l) k = a at *
              generalize (lanesOf m).length = b at *
              generalize bitsTo m 4 = b4 at *
              congr 1
              rcases Nat.eq_zero_or_pos k with h | h
              · obtain ⟨e1, e2⟩ := h0.1 h
                omega
              · have e1 := h0.2 (by omega)
                omega
            case measure => simp [intOf]; omega
      · obtain rfl : k = D.length := by omega
        have hz : ¬ (D.length = 0) := by omega
        rw [if_neg hz]
        go_wp2
        go_ret
        refine ⟨reti ?_, b1⟩
        rw [HM.out]
        first | done | rfl | rw [hln]

set_option maxRecDepth 100000 in
set_option maxHeartbeats 4000000 in
theorem iLiveMost_c (A : Option Addr) (c : Nat) (l : List Cd) (w : World) (hA : RdC w w.heap.size A l) (hl : l.length ≤ 1000000000) :
    Calls Try.prog 62 #[.slice A l.length c] w fun e w' => e = .returned (.int .i64 (mostL l)) ∧ Below w.heap.size w w' := by
  cases hp : pv l with
  | false =>
    have HM := Lib.hid (show mostL l = -1 by simp [mostL, hp])
    go_enter Try.func62, Try.ntmps62
    go_wp2_with fail
    refine (iProgramValid_c A c l w hA hl).mono ?_
    rintro e w1 ⟨rfl, b1⟩
    rw [hp]
    go_wp2
    go_ret
    exact ⟨reti HM.out.symm, b1⟩
  | true =>
    obtain ⟨hln, hget⟩ := lsL_ok hp
    have hM := (most_law hp).1
    have hb16 := (fix_is hp).1.b16
    have h40 := (pv_iff.1 hp).1
    have he : lsL l = lvRow (liveFix l) (l.length + 1) := by simp [lsL, hp]
    have HM := Lib.hid hM
    have HG := Lib.hid hget
    have HB := Lib.hid hb16
    have HP := Lib.hid hp
    have HC := Lib.hid (fun W h => iliveSets_c A c l W h hp)
    rw [← he] at HC
    clear hM hget hb16 he
    go_enter Try.func62, Try.ntmps62
    go_wp2_with fail
    refine (iProgramValid_c A c l w hA hl).mono ?_
    rintro e w1 ⟨rfl, b1⟩
    rw [hp]
    clear hp
    go_wp2_with fail
    refine (HC.out w1 ((hA.below b1).more b1.size)).mono ?_
    rintro e w2 ⟨A2, c2, rfl, o2, b2⟩
    have b3 := below_trans b1 (Nat.le_refl _) b2
    have r2 := OwI.rd o2
    clear o2 HC b1 b2
    generalize lsL l = D at *
    go_wp2
    go_loop [3, 12] (fun mv kv => ∃ k : Nat, k ≤ D.length ∧ kv = .int .i64 k ∧ mv = .int .i64 (mostTo l (liveFix l) k)) (fun _ kv => D.length - (intOf kv).toNat)
    case atStart => exact ⟨0, Nat.zero_le _, rfl, rfl⟩
    case round =>
      obtain ⟨k, hk, rfl, rfl⟩ := hrel
      by_cases hlt : k < D.length
      · obtain ⟨pb, po, x, rfl, -, hx, hc⟩ := r2.at_ hlt
        rw [HG.out k (by omega)] at hx
        injection hx with hx
        have hkI : (k : Int) < (D.length : Int) := by omega
        have hm16 := HB.out k
        have HS := Lib.hid (show mostTo l (liveFix l) (k + 1) = max (mostTo l (liveFix l) k) (lanesOf (liveFix l k)).length from rfl)
        subst hx
        generalize liveFix l k = m at hc hm16 HS
        go_wp2_with fail
        refine (maskMany_c m w2 (by omega)).mono ?_
        rintro e w3 ⟨rfl, rfl⟩
        go_wp2
        go_round
        case rel => exact ⟨k + 1, by omega, by go_num, by rw [HS.out]; congr 1; split <;> omega⟩
        case measure => simp [intOf]; omega
      · obtain rfl : k = D.length := by omega
        go_wp2
        go_ret
        refine ⟨reti ?_, b3⟩
        rw [HM.out]
        first | done | rfl | rw [hln]
end Go.Proofs.Ytcaibhjdahmjeaa
