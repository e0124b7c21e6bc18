/- FnLaunchChain: the walk of the law. -/
import Derived.Test.YtakeacndmnnbmaaGreatDrawC
import Derived.Test.YtakeacndmnnbmaaGreatSame
namespace Go.Proofs.YtakeacndmnnbmaaGreat
open Go.RowKit
set_option linter.unusedVariables false
set_option linter.unusedSimpArgs false
set_option maxRecDepth 100000 in
set_option maxHeartbeats 8000000 in
theorem fnLaunchChain_c (w : World) (A : Option Addr) (c : Nat) (bs : List Int) (hA : Reads w w.heap.size 1 A bs.length (bs.map (.int .u8))) (hl : bs.length ≤ 9223372036854775807) (hb : ∀ x ∈ bs, 0 ≤ x ∧ x ≤ 255) (hcap : bs.length ≤ c) :
    Calls Tryz.prog 7 #[.slice A bs.length c] w fun e w' => e = .returned (.bool true) ∧ Below w.heap.size w w' := by
  by_cases hbig0 : 1048576 < bs.length
  · go_enter Tryz.func7, Tryz.ntmps7
    go_wp2
    go_ret
    exact ⟨rfl, Below.refl _ _⟩
  · go_enter Tryz.func7, Tryz.ntmps7
    go_wp2_with fail
    refine (drawLaunchChain_c A c bs w hA hb hl hcap).mono ?_
    rintro e w1 ⟨ps, P, pc, As, cs, n, mem, Ar, cr, rfl, hp7, hm40, hpc, hlen, rP, rM, hB⟩
    have HLEN := Lib.hid hlen
    have hcl := chainM_len ps n mem
    have HEQ := Lib.hid (fun h : chainOk ps n mem = false => chain_bad h)
    have HLW := Lib.hid (fun h : chainOk ps n mem = true => chain_law h)
    have HSA := Lib.hid (fun (W : World) (a : RdP W W.heap.size P As cs ps) (b : RdI W W.heap.size Ar mem) => sLaunchChain_c P Ar pc cr ps n mem W a b (fun i hi => by have := HLEN.out i hi; omega) (by omega) (by omega))
    have HIA := Lib.hid (fun (W : World) (a : RdP W W.heap.size P As cs ps) (b : RdI W W.heap.size Ar mem) => iLaunchChain_c P Ar pc cr ps n mem W a b (fun i hi => by have := HLEN.out i hi; omega) (by omega) (by omega))
    unfold ChP at HSA HIA
    clear hlen
    generalize hCe : chainM ps n mem = C at *
    generalize hNe : chainN ps n mem = N at *
    clear hCe hNe
    go_wp2_with fail
    refine (HIA.out w1 rP rM).mono ?_
    rintro e w2 ⟨M1, d1, rfl, o1, b2⟩
    replace rP := (rP.below b2).more b2.size
    replace rM := (rM.below b2).more b2.size
    replace hB := below_trans hB (Nat.le_refl _) b2
    clear b2
    have v1 := OwI.rd o1
    go_wp2_with fail
    refine (HSA.out w2 rP rM).mono ?_
    rintro e w3 ⟨M2, d2, rfl, o2, b3⟩
    replace rP := (rP.below b3).more b3.size
    replace rM := (rM.below b3).more b3.size
    replace v1 := (v1.below b3).more b3.size
    replace hB := below_trans hB (Nat.le_refl _) b3
    clear b3
    have v2 := OwI.rd o2
    clear HSA HIA o1 o2
    go_wp2_with fail
    refine (sameInts_c M1 M2 d1 d2 C w3 v1 v2 (by omega)).mono ?_
    rintro e w4 ⟨rfl, b4⟩
    replace rP := (rP.below b4).more b4.size
    replace rM := (rM.below b4).more b4.size
    replace v1 := (v1.below b4).more b4.size
    replace v2 := (v2.below b4).more b4.size
    replace hB := below_trans hB (Nat.le_refl _) b4
    clear b4
    clear v2
    cases hok : chainOk ps n mem with
    | false =>
      obtain ⟨rfl, rfl⟩ := HEQ.out hok
      clear HEQ HLW hok hcl
      go_wp2_with fail
      refine (alive_c _).mono ?_
      rintro e wz ⟨rfl, rfl⟩
      go_wp2
      go_ret
      exact ⟨rfl, hB⟩
    | true =>
      obtain ⟨e1, e2, e3, e4, e5, e6⟩ := HLW.out hok
      have E6 := Lib.hid e6
      have E1 := Lib.hid e1
      have hCpos : ¬ C.length = 0 := by omega
      have hNle : (N : Int) ≤ (ps.length : Int) := by omega
      have hN0 : (0 : Int) ≤ (N : Int) := by omega
      have hNpc : (N : Int) ≤ (pc : Int) := by omega
      have hlt : (ps.take N).length = N := by simp; omega
      have HTA := Lib.hid (fun W (a : RdP W W.heap.size P As cs (ps.take N)) b => iLaunchChain_c P Ar pc cr (ps.take N) n mem W a b (fun i hi => by
        rw [hlt] at hi
        have e : (ps.take N).getD i [] = ps.getD i [] := by simp [List.getD_eq_getElem?_getD, List.getElem?_take, hi]
        rw [e]; have := HLEN.out i (by omega); omega) (by omega) (by omega))
      unfold ChP at HTA
      rw [e4, e5, hlt] at HTA
      have rT := RdP.take rP N (by omega)
      clear e1 e4 e5 e6 hlt HEQ HLW hok
      go_wp2_with fail
      refine (HTA.out w4 rT rM).mono ?_
      rintro e w5 ⟨M3, d3, rfl, o3, b5⟩
      replace rP := (rP.below b5).more b5.size
      replace rM := (rM.below b5).more b5.size
      replace v1 := (v1.below b5).more b5.size
      replace rT := (rT.below b5).more b5.size
      replace hB := below_trans hB (Nat.le_refl _) b5
      clear b5
      have v3 := OwI.rd o3
      clear HTA o3
      clear rT
      by_cases hlt : N < ps.length
      · have hltI : (N : Int) < (ps.length : Int) := by omega
        obtain ⟨p, hp, hrp⟩ := E6.out hlt
        have hgp : ps.getD N [] = p := by simp [List.getD_eq_getElem?_getD, hp]
        obtain ⟨pb, po, rfl, hpB, p0⟩ := rP.at_ hlt
        have rp := rP.inn N hlt
        have hpl := HLEN.out N hlt
        rw [hgp] at p0 rp hpl
        have HIL := Lib.hid (fun W a b => iLaunch_c (As N) M1 (cs N) d1 p n C W a b (by omega) (by omega))
        unfold LaP at HIL
        have hrp2 : (reasonOf p n C == 0) = false := beq_eq_false_iff_ne.2 hrp
        have hce : ((C.length : Int) == (mem.length : Int)) = true := by rw [E1.out]; simp
        generalize reasonOf p n C = rs at *
        clear hp hgp hrp E6
        go_wp2_with fail
        refine (HIL.out w5 rp v1).mono ?_
        rintro e w6 ⟨M4, d4, rfl, -, b6⟩
        replace rP := (rP.below b6).more b6.size
        replace rM := (rM.below b6).more b6.size
        replace v1 := (v1.below b6).more b6.size
        replace v3 := (v3.below b6).more b6.size
        replace hB := below_trans hB (Nat.le_refl _) b6
        clear b6
        clear HIL p0 rp
        go_wp2_with fail
        refine (sameInts_c M3 M1 d3 d1 C w6 v3 v1 (by omega)).mono ?_
        rintro e w7 ⟨rfl, b7⟩
        replace rP := (rP.below b7).more b7.size
        replace rM := (rM.below b7).more b7.size
        replace v1 := (v1.below b7).more b7.size
        replace v3 := (v3.below b7).more b7.size
        replace hB := below_trans hB (Nat.le_refl _) b7
        clear b7
        go_wp2
        go_ret
        exact ⟨rfl, hB⟩
      · have hltI : ¬ ((N : Int) < (ps.length : Int)) := by omega
        have hce : ((C.length : Int) == (mem.length : Int)) = true := by rw [E1.out]; simp
        clear E6
        go_wp2_with fail
        refine (sameInts_c M3 M1 d3 d1 C w5 v3 v1 (by omega)).mono ?_
        rintro e w8 ⟨rfl, b8⟩
        replace rP := (rP.below b8).more b8.size
        replace rM := (rM.below b8).more b8.size
        replace v1 := (v1.below b8).more b8.size
        replace v3 := (v3.below b8).more b8.size
        replace hB := below_trans hB (Nat.le_refl _) b8
        clear b8
        go_wp2
        go_ret
        exact ⟨rfl, hB⟩
end Go.Proofs.YtakeacndmnnbmaaGreat
