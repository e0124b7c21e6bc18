/- FnPeelAccesses: the walk of the law. -/
import Derived.Test.YtoiihjbdcjllbaaRunD
import Derived.Test.YtoiihjbdcjllbaaWatch0
import Derived.Test.YtoiihjbdcjllbaaAccs
import Derived.Test.YtoiihjbdcjllbaaSame
import Derived.Test.YtoiihjbdcjllbaaPeelK
namespace Go.Proofs.Ytoiihjbdcjllbaa
open Go.RowKit
set_option linter.unusedVariables false
set_option linter.unusedSimpArgs false
theorem reason_eq2 {l x : List Cd} {n : Int} {mem : List Int} (h : lockOk l n mem = true) (h' : lockOk x n mem = true) (ha : accsOf x n mem = accsOf l n mem) (hs : splitB x n.toNat (lockS x n.toNat mem).beats = splitB l n.toNat (lockS l n.toNat mem).beats) : reasonOf x n mem = reasonOf l n mem := by
  simp only [reasonOf, h, h', ha, hs]
theorem peelacc_len (l : List Cd) (t : Int) : (peelSomeL l t).length ≤ 40 := by
  cases hp : pv l with
  | false => simp [peelSomeL, hp]
  | true =>
    cases hc : inR t 0 40 with
    | false => simp [peelSomeL, hc]
    | true =>
      have e : peelSomeL l t = peelN l t.toNat := by simp [peelSomeL, hp, hc]
      rw [e]
      exact (pv_iff.1 (peelN_run (n := 1) (by omega) [0] t.toNat l hp).1).1
theorem peelacc_law {l x : List Cd} {n : Int} {mem : List Int} (h : lockOk l n mem = true) (hx : peelSomeL l 2 = x) : accsOf x n mem = accsOf l n mem ∧ reasonOf x n mem = reasonOf l n mem := by
  have h2 := h
  simp only [lockOk, Bool.and_eq_true] at h2
  obtain ⟨k1, k2, k3⟩ := acc_peeled h 2
  have e : x = peelN l 2 := by rw [← hx]; simp [peelSomeL, h2.1, inR]
  subst e
  exact ⟨k2, reason_eq2 h k1 k2 k3⟩
set_option maxRecDepth 100000 in
set_option maxHeartbeats 8000000 in
theorem fnPeelAccesses_c (w : World) (A : Option Addr) (c : Nat) (bs : List Int) (hA : Reads w w.heap.size 1 A bs.length (bs.map (.int .u8))) (hl : bs.length ≤ 9223372036854775807) (hb : ∀ x ∈ bs, 0 ≤ x ∧ x ≤ 255) (hcap : bs.length ≤ c) :
    Calls Try.prog 7 #[.slice A bs.length c] w fun e w' => e = .returned (.bool true) ∧ Below w.heap.size w w' := by
  by_cases hbig0 : 1048576 < bs.length
  · go_enter Try.func7, Try.ntmps7
    go_wp2
    go_ret
    exact ⟨rfl, Below.refl _ _⟩
  · go_enter Try.func7, Try.ntmps7
    go_wp2_with fail
    refine (drawLockAccesses2_c A c bs w hA hb hl hcap).mono ?_
    rintro e w1 ⟨l, A1, c1, n, mem, Ar, cr, rfl, hl2, hm40, hn9, hcn, hcl, r1, rM, hB⟩
    have hal := accsOf_len l n mem
    have HSA := Lib.hid (fun W a b => sLockAccesses_c A1 Ar c1 cr l n mem W a b (by omega) (by omega))
    go_wp2_with fail
    refine (iLockAccesses_c A1 Ar c1 cr l n mem w1 r1 rM (by omega) (by omega)).mono ?_
    rintro e w2 ⟨U1, u1, rfl, q1, b2⟩
    replace r1 := (r1.below b2).more b2.size
    replace rM := (rM.below b2).more b2.size
    replace hB := below_trans hB (Nat.le_refl _) b2
    clear b2
    generalize hqs : accsOf l n mem = qs at *
    go_wp2_with fail
    refine (HSA.out w2 r1 rM).mono ?_
    rintro e w3 ⟨U2, u2, rfl, q2, b3⟩
    replace r1 := (r1.below b3).more b3.size
    replace rM := (rM.below b3).more b3.size
    replace q1 := (q1.below b3).more b3.size
    replace hB := below_trans hB (Nat.le_refl _) b3
    clear b3
    clear HSA
    go_wp2_with fail
    refine (sameAccesses_c U1 U2 u1 u2 qs w3 q1 q2 (by omega)).mono ?_
    rintro e w4 ⟨rfl, b4⟩
    replace r1 := (r1.below b4).more b4.size
    replace rM := (rM.below b4).more b4.size
    replace q1 := (q1.below b4).more b4.size
    replace q2 := (q2.below b4).more b4.size
    replace hB := below_trans hB (Nat.le_refl _) b4
    clear b4
    clear q2
    have HI := Lib.hid (fun W a => iPeelSome_c A1 c1 l 2 W a (by omega) hcn hcl)
    have hlx := peelacc_len l 2
    obtain ⟨x, hx⟩ : ∃ x, peelSomeL l 2 = x := ⟨_, rfl⟩
    rw [hx] at HI hlx
    have HL := Lib.hid (fun h => peelacc_law (x := x) (n := n) (mem := mem) h hx)
    rw [hqs] at HL
    go_wp2_with fail
    refine (HI.out w4 r1).mono ?_
    rintro e w5 ⟨A2, c2, rfl, o2, b5⟩
    replace r1 := (r1.below b5).more b5.size
    replace rM := (rM.below b5).more b5.size
    replace q1 := (q1.below b5).more b5.size
    replace hB := below_trans hB (Nat.le_refl _) b5
    clear b5
    have r2 := OwC.rd o2
    clear o2 HI hx hcn hcl
    have HX := Lib.hid (fun W a b => iLockAccesses_c A2 Ar c2 cr x n mem W a b (by omega) (by omega))
    go_wp2_with fail
    refine (runs_c A1 Ar c1 cr l n mem w5 r1 rM (by omega) (by omega)).mono ?_
    rintro e w6 ⟨rfl, b6⟩
    replace r1 := (r1.below b6).more b6.size
    replace rM := (rM.below b6).more b6.size
    replace q1 := (q1.below b6).more b6.size
    replace r2 := (r2.below b6).more b6.size
    replace hB := below_trans hB (Nat.le_refl _) b6
    clear b6
    cases hok : lockOk l n mem with
    | false =>
      go_wp2_with fail
      refine (alive_c _).mono ?_
      rintro e wz ⟨rfl, rfl⟩
      go_wp2
      go_ret
      exact ⟨rfl, hB⟩
    | true =>
      obtain ⟨ea, eb⟩ := HL.out hok
      rw [ea] at HX
      have EB := Lib.hid eb
      clear ea eb hok HL hqs
      go_wp2_with fail
      refine (HX.out w6 r2 rM).mono ?_
      rintro e w7 ⟨U3, u3, rfl, q3, b7⟩
      replace r1 := (r1.below b7).more b7.size
      replace rM := (rM.below b7).more b7.size
      replace q1 := (q1.below b7).more b7.size
      replace r2 := (r2.below b7).more b7.size
      replace hB := below_trans hB (Nat.le_refl _) b7
      clear b7
      clear HX
      go_wp2_with fail
      refine (sameAccesses_c U3 U1 u3 u1 qs w7 q3 q1 (by omega)).mono ?_
      rintro e w8 ⟨rfl, b8⟩
      replace r1 := (r1.below b8).more b8.size
      replace rM := (rM.below b8).more b8.size
      replace q1 := (q1.below b8).more b8.size
      replace r2 := (r2.below b8).more b8.size
      replace q3 := (q3.below b8).more b8.size
      replace hB := below_trans hB (Nat.le_refl _) b8
      clear b8
      clear q3
      clear q1
      go_wp2_with fail
      refine (isSafe_c A2 Ar c2 cr x n mem w8 r2 rM (by omega) (by omega)).mono ?_
      rintro e w9 ⟨rfl, b9⟩
      replace r1 := (r1.below b9).more b9.size
      replace rM := (rM.below b9).more b9.size
      replace r2 := (r2.below b9).more b9.size
      replace hB := below_trans hB (Nat.le_refl _) b9
      clear b9
      rw [EB.out]
      generalize hrs : reasonOf l n mem = rs at *
      go_wp2_with fail
      refine (isSafe_c A1 Ar c1 cr l n mem w9 r1 rM (by omega) (by omega)).mono ?_
      rintro e w10 ⟨rfl, b10⟩
      replace r1 := (r1.below b10).more b10.size
      replace rM := (rM.below b10).more b10.size
      replace r2 := (r2.below b10).more b10.size
      replace hB := below_trans hB (Nat.le_refl _) b10
      clear b10
      rw [hrs]
      generalize (rs == 0) = bs1 at *
      have hbb : (bs1 == bs1) = true := by simp
      go_wp2_with fail
      refine (alive_c _).mono ?_
      rintro e wz ⟨rfl, rfl⟩
      go_wp2
      go_ret
      exact ⟨rfl, hB⟩
end Go.Proofs.Ytoiihjbdcjllbaa
