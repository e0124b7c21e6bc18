/- FnOccupancy: the walk of the law. -/
import Derived.Test.YtlnbpepeofceaaaRunD
import Derived.Test.YtlnbpepeofceaaaOccI
import Derived.Test.YtlnbpepeofceaaaCountOps
import Derived.Test.YtlnbpepeofceaaaProfP
namespace Go.Proofs.Ytlnbpepeofceaaa
open Go.RowKit
set_option linter.unusedVariables false
set_option linter.unusedSimpArgs false

theorem occ_bad {l : List Cd} {n : Int} {m : List Int} (h : lockOk l n m = false) : occL l n m = -1 := by
  unfold occL; rw [h]; rfl
theorem occ_law {l : List Cd} {n : Int} {m : List Int} (h : lockOk l n m = true) : (1 ≤ occL l n m ∧ occL l n m ≤ 100) ∧ occL l 1 m = 100 ∧ l.length ≤ 40 ∧ countOpI l 14 = (countOp l 14 : Int) ∧ (countOp l 14 = 0 → occL l n m = 100) :=
  ⟨occ_in h, occ_one (lock_one h), (pv_iff.1 (lock_n h).2.2.1).1, by simp [countOpI, (lock_n h).2.2.1], occ_flat h⟩

set_option maxRecDepth 100000 in
set_option maxHeartbeats 8000000 in
theorem fnOccupancy_c (w : World) (A : Option Addr) (c : Nat) (bs : List Int) (hA : Reads w w.heap.size 1 A bs.length (bs.map (.int .u8))) (hl : bs.length ≤ 9223372036854775807) (hb : ∀ x ∈ bs, 0 ≤ x ∧ x ≤ 255) (hcap : bs.length ≤ c) :
    Calls Try.prog 8 #[.slice A bs.length c] w fun e w' => e = .returned (.bool true) ∧ Below w.heap.size w w' := by
  by_cases hbig0 : 1048576 < bs.length
  · go_enter Try.func8, Try.ntmps8
    go_wp2
    go_ret
    exact ⟨rfl, Below.refl _ _⟩
  · go_enter Try.func8, Try.ntmps8
    go_wp2_with fail
    refine (drawOccupancy_c A c bs w hA hb hl hcap).mono ?_
    rintro e w1 ⟨l, A1, c1, n, m, Am, cm, rfl, hl2, hm40, hn9, r1, rM, hB⟩
    go_wp2_with fail
    refine (iOccupancy_c A1 Am c1 cm l n m w1 r1 rM (by omega) (by omega)).mono ?_
    rintro e w2 ⟨rfl, b2⟩
    replace r1 := (r1.below b2).more b2.size
    replace rM := (rM.below b2).more b2.size
    replace hB := below_trans hB (Nat.le_refl _) b2
    clear b2
    go_wp2_with fail
    refine (sOccupancy_c A1 Am c1 cm l n m w2 r1 rM (by omega) (by omega)).mono ?_
    rintro e w3 ⟨rfl, b3⟩
    replace r1 := (r1.below b3).more b3.size
    replace rM := (rM.below b3).more b3.size
    replace hB := below_trans hB (Nat.le_refl _) b3
    clear b3
    cases hok : lockOk l n m with
    | false =>
      rw [occ_bad hok]
      go_wp2_with fail
      refine (alive_c _).mono ?_
      rintro e wz ⟨rfl, rfl⟩
      go_wp2
      go_ret
      exact ⟨rfl, hB⟩
    | true =>
      obtain ⟨hin, h1, hl40, hc, hz⟩ := occ_law hok
      have HI := Lib.hid (fun W h h2 => iOccupancy_c A1 Am c1 cm l 1 m W h h2 (by omega) (by omega))
      rw [h1] at HI
      have HC := Lib.hid (fun W h => iCountOps_c A1 c1 l 14 W h (by omega))
      rw [hc] at HC
      have HZ := Lib.hid hz
      have b14 := countOp_le l 14
      clear hok h1 hc hz
      generalize countOp l 14 = k at *
      generalize occL l n m = v at *
      obtain ⟨h1, h2⟩ := hin
      have hne : (v != v) = false := by simp
      have hv0 : decide (v < 0) = false := decide_eq_false (by omega)
      have hv0' : ¬ v < 0 := by omega
      go_wp2_with fail
      refine (HI.out w3 r1 rM).mono ?_
      rintro e w4 ⟨rfl, b4⟩
      replace r1 := (r1.below b4).more b4.size
      replace rM := (rM.below b4).more b4.size
      replace hB := below_trans hB (Nat.le_refl _) b4
      clear b4
      by_cases h100 : v = 100
      · subst h100
        go_wp2
        go_ret
        exact ⟨rfl, hB⟩
      · have e1 : (v == 100) = false := beq_eq_false_iff_ne.2 h100
        have hk : 0 < k := Nat.pos_of_ne_zero (fun e => h100 (HZ.out e))
        clear HZ
        go_wp2_with fail
        refine (HC.out w4 r1).mono ?_
        rintro e w5 ⟨rfl, b5⟩
        replace r1 := (r1.below b5).more b5.size
        replace rM := (rM.below b5).more b5.size
        replace hB := below_trans hB (Nat.le_refl _) b5
        clear b5
        go_wp2
        go_ret
        exact ⟨rfl, hB⟩
end Go.Proofs.Ytlnbpepeofceaaa
