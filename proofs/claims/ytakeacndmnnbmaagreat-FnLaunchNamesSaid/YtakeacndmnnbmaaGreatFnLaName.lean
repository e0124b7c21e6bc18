/- FnLaunchNames: the walk of the law. -/
import Derived.Test.YtakeacndmnnbmaaGreatRunD
import Derived.Test.YtakeacndmnnbmaaGreatLaunch
import Derived.Test.YtakeacndmnnbmaaGreatSame
import Derived.Test.YtakeacndmnnbmaaGreatNames1
import Derived.Test.YtakeacndmnnbmaaGreatSem
namespace Go.Proofs.YtakeacndmnnbmaaGreat
open Go.RowKit
set_option linter.unusedVariables false
set_option linter.unusedSimpArgs false
set_option maxRecDepth 100000 in
set_option maxHeartbeats 8000000 in
theorem fnLaunchNames_c (w : World) (A : Option Addr) (c : Nat) (bs : List Int) (hA : Reads w w.heap.size 1 A bs.length (bs.map (.int .u8))) (hl : bs.length ≤ 9223372036854775807) (hb : ∀ x ∈ bs, 0 ≤ x ∧ x ≤ 255) (hcap : bs.length ≤ c) (Am : Option Addr) (cm : Nat) (ms : List Int) (hAm : Reads w w.heap.size 1 Am ms.length (ms.map (.int .u8))) (hml : ms.length ≤ 9223372036854775807) (hmb : ∀ x ∈ ms, 0 ≤ x ∧ x ≤ 255) (hmcap : ms.length ≤ cm) :
    Calls Tryz.prog 5 #[.slice A bs.length c, .slice Am ms.length cm] w fun e w' => e = .returned (.bool true) ∧ Below w.heap.size w w' := by
  by_cases hbig0 : 1048576 < bs.length
  · go_enter Tryz.func5, Tryz.ntmps5
    go_wp2
    go_ret
    exact ⟨rfl, Below.refl _ _⟩
  by_cases hbig1 : 1048576 < ms.length
  · go_enter Tryz.func5, Tryz.ntmps5
    go_wp2
    go_ret
    exact ⟨rfl, Below.refl _ _⟩
  · go_enter Tryz.func5, Tryz.ntmps5
    go_wp2_with fail
    refine (drawLaunch2_c A c bs w hA hb hl hcap).mono ?_
    rintro e w1 ⟨l, A1, c1, n, mem, Ar, cr, rfl, hl2, hm40, hn9, hcn, hcl, r1, rM, hB⟩
    have hVl := launchM_len l n mem
    have HRC := Lib.hid (reason_cases l n mem)
    have HSA := Lib.hid (fun W a b => sLaunch_c A1 Ar c1 cr l n mem W a b (by omega) (by omega))
    unfold LaP at HSA
    go_wp2_with fail
    refine (iLaunch_c A1 Ar c1 cr l n mem w1 r1 rM (by omega) (by omega)).mono ?_
    rintro e w2 ⟨M1, d1, rfl, o1, b2⟩
    replace r1 := (r1.below b2).more b2.size
    replace rM := (rM.below b2).more b2.size
    replace hB := below_trans hB (Nat.le_refl _) b2
    clear b2
    have v1 := OwI.rd o1
    clear o1
    generalize hVe : launchM l n mem = V at *
    generalize hre : reasonOf l n mem = rs at *
    go_wp2_with fail
    refine (HSA.out w2 r1 rM).mono ?_
    rintro e w3 ⟨M2, d2, rfl, o2, b3⟩
    replace r1 := (r1.below b3).more b3.size
    replace rM := (rM.below b3).more b3.size
    replace v1 := (v1.below b3).more b3.size
    replace hB := below_trans hB (Nat.le_refl _) b3
    clear b3
    have v2 := OwI.rd o2
    clear HSA o2
    go_wp2_with fail
    refine (sameInts_c M1 M2 d1 d2 V w3 v1 v2 (by omega)).mono ?_
    rintro e w4 ⟨rfl, b4⟩
    replace r1 := (r1.below b4).more b4.size
    replace rM := (rM.below b4).more b4.size
    replace v1 := (v1.below b4).more b4.size
    replace v2 := (v2.below b4).more b4.size
    replace hB := below_trans hB (Nat.le_refl _) b4
    clear b4
    clear v2
    obtain ⟨a, hae⟩ : ∃ a : Nat, ms.length % 4 = a := ⟨_, rfl⟩
    obtain ⟨b, hbe⟩ : ∃ b : Nat, ms.length / 4 % 4 = b := ⟨_, rfl⟩
    have ha4 : a < 4 := by omega
    have hb4 : b < 4 := by omega
    have hqa : (ms.length : Int) % 4 = (a : Int) := by omega
    have hqb : (ms.length : Int) / 4 % 4 = (b : Int) := by omega
    have HQA := Lib.hid hqa
    have HQB := Lib.hid hqb
    have HI := Lib.hid (fun W h => iSwapRegs_c A1 c1 l (a : Int) (b : Int) W h (by omega))
    have hlx := swapL_len l (a : Int) (b : Int)
    obtain ⟨x, hx⟩ : ∃ x, swapL l (a : Int) (b : Int) = x := ⟨_, rfl⟩
    rw [hx] at HI hlx
    have HL := Lib.hid (fun h => name_launch (x := x) (n := n) (mem := mem) ha4 hb4 h hx)
    rw [hVe, hre] at HL
    clear hqa hqb hae hbe
    rcases HRC.out with ⟨rfl, -⟩ | ⟨hok, -, -, hrs⟩
    · clear HRC HI HL hx hVe hre
      go_wp2_with fail
      refine (alive_c _).mono ?_
      rintro e wz ⟨rfl, rfl⟩
      go_wp2
      go_ret
      exact ⟨rfl, hB⟩
    · obtain ⟨q1, q2⟩ := HL.out hok
      have Q1 := Lib.hid q1
      have Q2 := Lib.hid q2
      have hrn : (rs == 1) = false := by rcases hrs with rfl | rfl | rfl <;> rfl
      have hrr : (rs == rs) = true := by simp
      clear q1 q2 HL HRC hok hre hVe hx hrs
      go_wp2_with fail
      rw [HQA.out, HQB.out]
      refine (HI.out w4 r1).mono ?_
      rintro e w5 ⟨A2, c2, rfl, ox, b5⟩
      replace r1 := (r1.below b5).more b5.size
      replace rM := (rM.below b5).more b5.size
      replace v1 := (v1.below b5).more b5.size
      replace hB := below_trans hB (Nat.le_refl _) b5
      clear b5
      have r2 := OwC.rd ox
      clear ox HI
      have HX := Lib.hid (fun W a b => iLaunch_c A2 Ar c2 cr x n mem W a b (by omega) (by omega))
      unfold LaP at HX
      rw [Q1.out, Q2.out] at HX
      go_wp2_with fail
      refine (HX.out w5 r2 rM).mono ?_
      rintro e w6 ⟨M3, d3, rfl, o3, b6⟩
      replace r1 := (r1.below b6).more b6.size
      replace rM := (rM.below b6).more b6.size
      replace v1 := (v1.below b6).more b6.size
      replace r2 := (r2.below b6).more b6.size
      replace hB := below_trans hB (Nat.le_refl _) b6
      clear b6
      have v3 := OwI.rd o3
      clear HX o3 Q1 Q2
      go_wp2_with fail
      refine (sameInts_c M3 M1 d3 d1 V w6 v3 v1 (by omega)).mono ?_
      rintro e w7 ⟨rfl, b7⟩
      replace r1 := (r1.below b7).more b7.size
      replace rM := (rM.below b7).more b7.size
      replace v1 := (v1.below b7).more b7.size
      replace r2 := (r2.below b7).more b7.size
      replace v3 := (v3.below b7).more b7.size
      replace hB := below_trans hB (Nat.le_refl _) b7
      clear b7
      go_wp2
      go_ret
      exact ⟨rfl, hB⟩
end Go.Proofs.YtakeacndmnnbmaaGreat
