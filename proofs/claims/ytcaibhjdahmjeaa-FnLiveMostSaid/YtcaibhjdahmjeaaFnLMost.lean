/- FnLiveMost: the walk of the law. -/
import Derived.Test.YtcaibhjdahmjeaaSame
import Derived.Test.YtcaibhjdahmjeaaRowsEq
import Derived.Test.YtcaibhjdahmjeaaLiveMost
namespace Go.Proofs.Ytcaibhjdahmjeaa
open Go.RowKit
set_option linter.unusedVariables false
set_option linter.unusedSimpArgs false

theorem lmost_law {l : List Cd} (hp : pv l = true) : ∃ k : Nat, mostL l = (k : Int) ∧ k ≤ 4 ∧ countOpI l 9 = (countOp l 9 : Int) ∧ countOpI l 14 = (countOp l 14 : Int) ∧ (countOp l 9 + countOp l 14 = 0 → mostL (dropDeadL l) = 0) :=
  ⟨_, (most_law hp).1, (most_law hp).2, by simp [countOpI, hp], by simp [countOpI, hp], fun h => most_plain hp (by omega) (by omega)⟩

set_option maxRecDepth 100000 in
set_option maxHeartbeats 8000000 in
theorem fnLiveMost_c (w : World) (A : Option Addr) (c : Nat) (bs : List Int) (hA : Reads w w.heap.size 1 A bs.length (bs.map (.int .u8))) (hl : bs.length ≤ 9223372036854775807) (hb : ∀ x ∈ bs, 0 ≤ x ∧ x ≤ 255) (hcap : bs.length ≤ c) :
    Calls Try.prog 14 #[.slice A bs.length c] w fun e w' => e = .returned (.bool true) ∧ Below w.heap.size w w' := by
  by_cases hbig0 : 1048576 < bs.length
  · go_enter Try.func14, Try.ntmps14
    go_wp2
    go_ret
    exact ⟨rfl, Below.refl _ _⟩
  · go_enter Try.func14, Try.ntmps14
    go_wp2_with fail
    refine (drawLiveMost_c A c bs w hA hb hl hcap).mono ?_
    rintro e w1 ⟨l, A1, c1, rfl, hl2, o1, hB⟩
    have r1 := OC.rd o1
    have hn1 := fun e => OC.nilc o1 e
    clear o1
    have hlx : (dropDeadL l).length ≤ 40 := dropDeadL_len l
    have HM := Lib.hid (show mostL l = mostL l from rfl)
    go_wp2_with fail
    refine (iLiveMost_c A1 c1 l w1 r1 (by omega)).mono ?_
    rintro e w2 ⟨rfl, b2⟩
    replace r1 := (r1.below b2).more b2.size
    replace hB := below_trans hB (Nat.le_refl _) b2
    clear b2
    go_wp2_with fail
    refine (sLiveMost_c A1 c1 l w2 r1 (by omega)).mono ?_
    rintro e w3 ⟨rfl, b3⟩
    replace r1 := (r1.below b3).more b3.size
    replace hB := below_trans hB (Nat.le_refl _) b3
    clear b3
    cases hp : pv l with
    | false =>
      have e : mostL l = -1 := by simp [mostL, hp]
      rw [e]
      go_wp2_with fail
      refine (alive_c _).mono ?_
      rintro e wz ⟨rfl, rfl⟩
      go_wp2
      go_ret
      exact ⟨rfl, hB⟩
    | true =>
      obtain ⟨k, hk, hk4, e9, e14, hz⟩ := lmost_law hp
      have b9 := countOp_le l 9
      have b14 := countOp_le l 14
      have hl40 := (pv_iff.1 hp).1
      have hne : ((k : Int) != (k : Int)) = false := by simp
      have hk0 : decide ((k : Int) < 0) = false := decide_eq_false (by omega)
      have hkk : decide ((k : Int) ≤ 4) = true := decide_eq_true (by omega)
      have HC9 := Lib.hid (fun W h => iCountOps_c A1 c1 l 9 W h (by omega))
      have HC14 := Lib.hid (fun W h => iCountOps_c A1 c1 l 14 W h (by omega))
      rw [e9] at HC9
      rw [e14] at HC14
      have HZ := Lib.hid hz
      rw [hk]
      clear hp hz e9 e14 hk HM
      generalize countOp l 9 = k9 at *
      generalize countOp l 14 = k14 at *
      go_wp2_with fail
      refine (HC9.out w3 r1).mono ?_
      rintro e w4 ⟨rfl, b4⟩
      replace r1 := (r1.below b4).more b4.size
      replace hB := below_trans hB (Nat.le_refl _) b4
      clear b4
      go_wp2_with fail
      refine (HC14.out w4 r1).mono ?_
      rintro e w5 ⟨rfl, b5⟩
      replace r1 := (r1.below b5).more b5.size
      replace hB := below_trans hB (Nat.le_refl _) b5
      clear b5
      have hs : IntKind.i64.wrap ((k9 : Int) + (k14 : Int)) = (k9 : Int) + k14 := IntWalk.i64_in _ (by omega)
      by_cases h0 : k9 + k14 = 0
      · have hs0 : ((k9 : Int) + (k14 : Int) == 0) = true := beq_iff_eq.2 (by omega)
        have hm := HZ.out h0
        obtain rfl : k9 = 0 := by omega
        obtain rfl : k14 = 0 := by omega
        clear h0
        go_wp2_with fail
        refine (iDropDead_c A1 c1 l w5 r1 (by omega) hn1).mono ?_
        rintro e w6 ⟨A2, c2, rfl, o2, b6⟩
        replace r1 := (r1.below b6).more b6.size
        replace hB := below_trans hB (Nat.le_refl _) b6
        clear b6
        have r2 := OwC.rd o2
        clear o2
        have HX := Lib.hid (fun W h => iLiveMost_c A2 c2 (dropDeadL l) W h (by omega))
        rw [hm] at HX
        generalize dropDeadL l = x at *
        go_wp2_with fail
        refine (HX.out w6 r2).mono ?_
        rintro e w7 ⟨rfl, b7⟩
        replace r1 := (r1.below b7).more b7.size
        replace r2 := (r2.below b7).more b7.size
        replace hB := below_trans hB (Nat.le_refl _) b7
        clear b7
        go_wp2
        go_ret
        exact ⟨rfl, hB⟩
      · have hs0 : ((k9 : Int) + (k14 : Int) == 0) = false := beq_eq_false_iff_ne.2 (by omega)
        clear h0
        go_wp2
        go_ret
        exact ⟨rfl, hB⟩
end Go.Proofs.Ytcaibhjdahmjeaa
