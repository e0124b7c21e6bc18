/- FnNamesAccesses: the walk of the law. -/
import Derived.Test.YtoiihjbdcjllbaaRunD
import Derived.Test.YtoiihjbdcjllbaaWatch0
import Derived.Test.YtoiihjbdcjllbaaAccs
import Derived.Test.YtoiihjbdcjllbaaSame
import Derived.Test.YtoiihjbdcjllbaaNames1
import Derived.Test.YtoiihjbdcjllbaaSem
namespace Go.Proofs.Ytoiihjbdcjllbaa
open Go.RowKit
set_option linter.unusedVariables false
set_option linter.unusedSimpArgs false
theorem nameacc_law {l x : List Cd} {a b : Nat} {n : Int} {mem : List Int} (ha : a < 4) (hb : b < 4) (h : lockOk l n mem = true) (hx : swapL l (a : Int) (b : Int) = x) : accsOf x n mem = accsOf l n mem ∧ traceOf x n mem = traceOf l n mem := by
  have h2 := h
  simp only [lockOk, Bool.and_eq_true] at h2
  have e : x = l.map (ren (nm (swapTo a b))) := by
    rw [← hx]
    simp [swapL, h2.1, inR_iff.2 (show (0 : Int) ≤ (a : Int) ∧ (a : Int) ≤ 3 by omega), inR_iff.2 (show (0 : Int) ≤ (b : Int) ∧ (b : Int) ≤ 3 by omega)]
  subst e
  have k := acc_ren (Names.swap (a := (a : Int)) (b := (b : Int)) (by omega) (by omega)) h
  exact k.2
set_option maxRecDepth 100000 in
set_option maxHeartbeats 8000000 in
theorem fnNamesAccesses_c (w : World) (A : Option Addr) (c : Nat) (bs : List Int) (hA : Reads w w.heap.size 1 A bs.length (bs.map (.int .u8))) (hl : bs.length ≤ 9223372036854775807) (hb : ∀ x ∈ bs, 0 ≤ x ∧ x ≤ 255) (hcap : bs.length ≤ c) (Am : Option Addr) (cm : Nat) (ms : List Int) (hAm : Reads w w.heap.size 1 Am ms.length (ms.map (.int .u8))) (hml : ms.length ≤ 9223372036854775807) (hmb : ∀ x ∈ ms, 0 ≤ x ∧ x ≤ 255) (hmcap : ms.length ≤ cm) :
    Calls Try.prog 5 #[.slice A bs.length c, .slice Am ms.length cm] w fun e w' => e = .returned (.bool true) ∧ Below w.heap.size w w' := by
  by_cases hbig0 : 1048576 < bs.length
  · go_enter Try.func5, Try.ntmps5
    go_wp2
    go_ret
    exact ⟨rfl, Below.refl _ _⟩
  by_cases hbig1 : 1048576 < ms.length
  · go_enter Try.func5, Try.ntmps5
    go_wp2
    go_ret
    exact ⟨rfl, Below.refl _ _⟩
  · go_enter Try.func5, Try.ntmps5
    go_wp2_with fail
    refine (drawLockAccesses2_c A c bs w hA hb hl hcap).mono ?_
    rintro e w1 ⟨l, A1, c1, n, mem, Ar, cr, rfl, hl2, hm40, hn9, hcn, hcl, r1, rM, hB⟩
    have hal := accsOf_len l n mem
    have HSA := Lib.hid (fun W a b => sLockAccesses_c A1 Ar c1 cr l n mem W a b (by omega) (by omega))
    go_wp2_with fail
    refine (iLockAccesses_c A1 Ar c1 cr l n mem w1 r1 rM (by omega) (by omega)).mono ?_
    rintro e w2 ⟨U1, u1, rfl, q1, b2⟩
    replace r1 := (r1.below b2).more b2.size
    replace rM := (rM.below b2).more b2.size
    replace hB := below_trans hB (Nat.le_refl _) b2
    clear b2
    generalize hqs : accsOf l n mem = qs at *
    go_wp2_with fail
    refine (HSA.out w2 r1 rM).mono ?_
    rintro e w3 ⟨U2, u2, rfl, q2, b3⟩
    replace r1 := (r1.below b3).more b3.size
    replace rM := (rM.below b3).more b3.size
    replace q1 := (q1.below b3).more b3.size
    replace hB := below_trans hB (Nat.le_refl _) b3
    clear b3
    clear HSA
    go_wp2_with fail
    refine (sameAccesses_c U1 U2 u1 u2 qs w3 q1 q2 (by omega)).mono ?_
    rintro e w4 ⟨rfl, b4⟩
    replace r1 := (r1.below b4).more b4.size
    replace rM := (rM.below b4).more b4.size
    replace q1 := (q1.below b4).more b4.size
    replace q2 := (q2.below b4).more b4.size
    replace hB := below_trans hB (Nat.le_refl _) b4
    clear b4
    clear q2
    obtain ⟨a, hae⟩ : ∃ a : Nat, ms.length % 4 = a := ⟨_, rfl⟩
    obtain ⟨b, hbe⟩ : ∃ b : Nat, ms.length / 4 % 4 = b := ⟨_, rfl⟩
    have ha4 : a < 4 := by omega
    have hb4 : b < 4 := by omega
    have hqa : (ms.length : Int) % 4 = (a : Int) := by omega
    have hqb : (ms.length : Int) / 4 % 4 = (b : Int) := by omega
    have HQA := Lib.hid hqa
    have HQB := Lib.hid hqb
    have HI := Lib.hid (fun W h => iSwapRegs_c A1 c1 l (a : Int) (b : Int) W h (by omega))
    have hlx := swapL_len l (a : Int) (b : Int)
    obtain ⟨x, hx⟩ : ∃ x, swapL l (a : Int) (b : Int) = x := ⟨_, rfl⟩
    rw [hx] at HI hlx
    have HL := Lib.hid (fun h => nameacc_law (x := x) (n := n) (mem := mem) ha4 hb4 h hx)
    rw [hqs] at HL
    clear hqa hqb hae hbe
    go_wp2_with fail
    rw [HQA.out, HQB.out]
    refine (HI.out w4 r1).mono ?_
    rintro e w5 ⟨A2, c2, rfl, o2, b5⟩
    replace r1 := (r1.below b5).more b5.size
    replace rM := (rM.below b5).more b5.size
    replace q1 := (q1.below b5).more b5.size
    replace hB := below_trans hB (Nat.le_refl _) b5
    clear b5
    have r2 := OwC.rd o2
    clear o2 HI hx
    have HX := Lib.hid (fun W a b => iLockAccesses_c A2 Ar c2 cr x n mem W a b (by omega) (by omega))
    go_wp2_with fail
    refine (runs_c A1 Ar c1 cr l n mem w5 r1 rM (by omega) (by omega)).mono ?_
    rintro e w6 ⟨rfl, b6⟩
    replace r1 := (r1.below b6).more b6.size
    replace rM := (rM.below b6).more b6.size
    replace q1 := (q1.below b6).more b6.size
    replace r2 := (r2.below b6).more b6.size
    replace hB := below_trans hB (Nat.le_refl _) b6
    clear b6
    cases hok : lockOk l n mem with
    | false =>
      go_wp2_with fail
      refine (alive_c _).mono ?_
      rintro e wz ⟨rfl, rfl⟩
      go_wp2
      go_ret
      exact ⟨rfl, hB⟩
    | true =>
      obtain ⟨ea, eb⟩ := HL.out hok
      rw [ea] at HX
      have EB := Lib.hid eb
      clear ea eb hok HL hqs
      go_wp2_with fail
      refine (HX.out w6 r2 rM).mono ?_
      rintro e w7 ⟨U3, u3, rfl, q3, b7⟩
      replace r1 := (r1.below b7).more b7.size
      replace rM := (rM.below b7).more b7.size
      replace q1 := (q1.below b7).more b7.size
      replace r2 := (r2.below b7).more b7.size
      replace hB := below_trans hB (Nat.le_refl _) b7
      clear b7
      clear HX
      go_wp2_with fail
      refine (sameAccesses_c U3 U1 u3 u1 qs w7 q3 q1 (by omega)).mono ?_
      rintro e w8 ⟨rfl, b8⟩
      replace r1 := (r1.below b8).more b8.size
      replace rM := (rM.below b8).more b8.size
      replace q1 := (q1.below b8).more b8.size
      replace r2 := (r2.below b8).more b8.size
      replace q3 := (q3.below b8).more b8.size
      replace hB := below_trans hB (Nat.le_refl _) b8
      clear b8
      clear q3
      clear q1
      have htl := traceOf_len l n mem
      have HTX := Lib.hid (fun W a b => iLockTraceT_c A2 Ar c2 cr x n mem W a b (by omega) (by omega))
      have HTL := Lib.hid (fun W a b => iLockTraceT_c A1 Ar c1 cr l n mem W a b (by omega) (by omega))
      rw [EB.out] at HTX
      clear EB
      generalize traceOf l n mem = tr at *
      go_wp2_with fail
      refine (HTX.out w8 r2 rM).mono ?_
      rintro e w9 ⟨T1, t1, rfl, p1, b9⟩
      replace r1 := (r1.below b9).more b9.size
      replace rM := (rM.below b9).more b9.size
      replace r2 := (r2.below b9).more b9.size
      replace hB := below_trans hB (Nat.le_refl _) b9
      clear b9
      go_wp2_with fail
      refine (HTL.out w9 r1 rM).mono ?_
      rintro e w10 ⟨T2, t2, rfl, p2, b10⟩
      replace r1 := (r1.below b10).more b10.size
      replace rM := (rM.below b10).more b10.size
      replace r2 := (r2.below b10).more b10.size
      replace p1 := (p1.below b10).more b10.size
      replace hB := below_trans hB (Nat.le_refl _) b10
      clear b10
      clear HTX HTL
      go_wp2_with fail
      refine (sameBeats_c T1 T2 t1 t2 tr w10 p1 p2 (by omega)).mono ?_
      rintro e w11 ⟨rfl, b11⟩
      replace r1 := (r1.below b11).more b11.size
      replace rM := (rM.below b11).more b11.size
      replace r2 := (r2.below b11).more b11.size
      replace p1 := (p1.below b11).more b11.size
      replace p2 := (p2.below b11).more b11.size
      replace hB := below_trans hB (Nat.le_refl _) b11
      clear b11
      go_wp2_with fail
      refine (alive_c _).mono ?_
      rintro e wz ⟨rfl, rfl⟩
      go_wp2
      go_ret
      exact ⟨rfl, hB⟩
end Go.Proofs.Ytoiihjbdcjllbaa
