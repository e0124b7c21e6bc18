/- One instruction of a lane, in the reference. -/
import Derived.Test.YtfgbbajkdpideaaLock1
namespace Go.Proofs.Ytfgbbajkdpideaa
open Go.RowKit
set_option linter.unusedVariables false
set_option linter.unusedSimpArgs false

set_option maxRecDepth 100000 in
set_option maxHeartbeats 16000000 in
theorem l6Simple_c (x : Cd) (id : Nat) (r m : List Int) (base rb rc mb mc mn : Nat) (w : World) (hv : cvOk x = true) (h10 : x.op ≤ 10) (hid : id ≤ 7)
    (hR : OI w base (some ⟨rb, 0, none⟩) 4 rc r) (hM : OI w base (some ⟨mb, 0, none⟩) mn mc m) (hne : rb ≠ mb) (hr : wordsOk r) (hm : wordsOk m) (hml : 1 ≤ mn ∧ mn ≤ 32) :
    Calls Try.prog 73 #[.slice (some ⟨rb, 0, none⟩) 4 rc, .slice (some ⟨mb, 0, none⟩) mn mc, x.val, .int .i64 id] w fun e w' => e = .returned (.tuple #[]) ∧ Simp1 w base rb rc mb mn mc x id r m w' := by
  have hrl : r.length = 4 := OI.len hR
  have hmn : m.length = mn := OI.len hM
  obtain ⟨hRb0, hRb1⟩ := OR.block hR rb rfl
  obtain ⟨hMb0, hMb1⟩ := OR.block hM mb rfl
  obtain ⟨hm1, hm2⟩ := hml
  have ha := cvOk_a hv
  have hb := cvOk_b hv
  have hc := cvOk_c hv
  have hb2 := cvOk_b2 hv
  have ho := op14' hv h10
  obtain ⟨a, hae⟩ := Int.eq_ofNat_of_zero_le ha.1
  obtain ⟨b, hbe⟩ := Int.eq_ofNat_of_zero_le hb.1
  obtain ⟨c, hce⟩ := Int.eq_ofNat_of_zero_le hc.1
  obtain ⟨o, xa, xb, xc⟩ := x
  simp only at ha hb hc hb2 hae hbe hce ho h10
  subst hae hbe hce
  have la : a ≤ 3 := by omega
  have lc : c ≤ 3 := by omega
  have a4 : (a : Int) < 4 := by omega
  have c4 : (c : Int) < 4 := by omega
  have ca := (OI.at0 hR).1 a _ (rg_get hrl la)
  have cc := (OI.at0 hR).1 c _ (rg_get hrl lc)
  have wa := rg_word hr a
  have wc := rg_word hr c
  have wb := rg_word hr b
  have fa := (OI.at0 hR).2.1 a
  have HR := Lib.hid hR
  have HM := Lib.hid hM
  have HRL := Lib.hid hrl
  have HMN := Lib.hid hmn
  have hob1 : Value.ownBlock (.slice (some ⟨mb, 0, none⟩) mn mc) ≠ some rb := fun e => hne (by injection e with e; exact e.symm)
  have hob2 : Value.ownBlock (.slice (some ⟨rb, 0, none⟩) 4 rc) ≠ some mb := fun e => hne (by injection e with e)
  have HO1 := Lib.hid hob1
  have HO2 := Lib.hid hob2
  have HX0 := Lib.hid (Off.refl w rb mb)
  clear hR hM hr hrl hmn hv hob1 hob2
  unfold Cd.val
  rcases ho with rfl | rfl | rfl | rfl | rfl | rfl | rfl | rfl | rfl | rfl
  · clear hb2 hm
    go_enter Try.func73, Try.ntmps73
    go_wp2
    go_end0
    exact ⟨rfl, OR.alloc ((OI.at0 HR.out).2.2 a b) _, OR.alloc (OR.set_other HM.out (p := ⟨rb, a, none⟩) HO1.out _) _, (HX0.out.set1 _ _).alloc _⟩
  · clear hb2 hm
    go_enter Try.func73, Try.ntmps73
    go_wp2
    go_end0
    exact ⟨rfl, OR.alloc ((OI.at0 HR.out).2.2 a id) _, OR.alloc (OR.set_other HM.out (p := ⟨rb, a, none⟩) HO1.out _) _, (HX0.out.set1 _ _).alloc _⟩
  · -- op 3
    have lb : b ≤ 3 := by have := hb2 (by omega); omega
    have b4 : (b : Int) < 4 := by omega
    have cb := (OI.at0 HR.out).1 b _ (rg_get HRL.out lb)
    clear hb2 hm
    go_enter Try.func73, Try.ntmps73
    go_wp2_with fail
    obtain ⟨d0, d1, d2, d3⟩ := cd_cells w ⟨3, a, b, c⟩ 50
    simp only at d0 d1 d2 d3
    have hX := Ext.alloc w (.cells #[.int .i64 3, .int .i64 a, .int .i64 b, .int .i64 c] 50)
    have hO := HX0.out.alloc (.cells #[.int .i64 3, .int .i64 a, .int .i64 b, .int .i64 c] 50)
    replace ca := hX.cell ca
    replace cb := hX.cell cb
    replace cc := hX.cell cc
    have HR2 := Lib.hid (OR.ext HR.out hX)
    have HM2 := Lib.hid (OR.ext HM.out hX)
    replace fa := (OI.at0 HR2.out).2.1 a
    generalize w.alloc (.cells #[.int .i64 3, .int .i64 a, .int .i64 b, .int .i64 c] 50) = W at *
    have HO := Lib.hid hO
    clear hX hO
    go_still_tail 15, (by kernel_rfl)
    still_call (calls_flip (sWordAdd_c _ _ _ wa wb))
    repeat still_step
    try refine wpStill_nil ?_
    go_wp2
    go_end0
    exact ⟨rfl, OR.drew ((OI.at0 HR2.out).2.2 a ((rg r a + rg r b) % 256)), OR.drew (OR.set_other HM2.out (p := ⟨rb, a, none⟩) HO1.out _), (HO.out.set1 _ _).drew⟩
  · -- op 4
    have lb : b ≤ 3 := by have := hb2 (by omega); omega
    have b4 : (b : Int) < 4 := by omega
    have cb := (OI.at0 HR.out).1 b _ (rg_get HRL.out lb)
    clear hb2 hm
    go_enter Try.func73, Try.ntmps73
    go_wp2_with fail
    obtain ⟨d0, d1, d2, d3⟩ := cd_cells w ⟨4, a, b, c⟩ 50
    simp only at d0 d1 d2 d3
    have hX := Ext.alloc w (.cells #[.int .i64 4, .int .i64 a, .int .i64 b, .int .i64 c] 50)
    have hO := HX0.out.alloc (.cells #[.int .i64 4, .int .i64 a, .int .i64 b, .int .i64 c] 50)
    replace ca := hX.cell ca
    replace cb := hX.cell cb
    replace cc := hX.cell cc
    have HR2 := Lib.hid (OR.ext HR.out hX)
    have HM2 := Lib.hid (OR.ext HM.out hX)
    replace fa := (OI.at0 HR2.out).2.1 a
    generalize w.alloc (.cells #[.int .i64 4, .int .i64 a, .int .i64 b, .int .i64 c] 50) = W at *
    have HO := Lib.hid hO
    clear hX hO
    go_still_tail 15, (by kernel_rfl)
    still_call (calls_flip (sWordMul_c _ _ _ wa wb))
    repeat still_step
    try refine wpStill_nil ?_
    go_wp2
    go_end0
    exact ⟨rfl, OR.drew ((OI.at0 HR2.out).2.2 a (rg r a * rg r b % 256)), OR.drew (OR.set_other HM2.out (p := ⟨rb, a, none⟩) HO1.out _), (HO.out.set1 _ _).drew⟩
  · -- op 5
    have lb : b ≤ 3 := by have := hb2 (by omega); omega
    have b4 : (b : Int) < 4 := by omega
    have cb := (OI.at0 HR.out).1 b _ (rg_get HRL.out lb)
    clear hb2 hm
    go_enter Try.func73, Try.ntmps73
    go_wp2_with fail
    obtain ⟨d0, d1, d2, d3⟩ := cd_cells w ⟨5, a, b, c⟩ 50
    simp only at d0 d1 d2 d3
    have hX := Ext.alloc w (.cells #[.int .i64 5, .int .i64 a, .int .i64 b, .int .i64 c] 50)
    have hO := HX0.out.alloc (.cells #[.int .i64 5, .int .i64 a, .int .i64 b, .int .i64 c] 50)
    replace ca := hX.cell ca
    replace cb := hX.cell cb
    replace cc := hX.cell cc
    have HR2 := Lib.hid (OR.ext HR.out hX)
    have HM2 := Lib.hid (OR.ext HM.out hX)
    replace fa := (OI.at0 HR2.out).2.1 a
    generalize w.alloc (.cells #[.int .i64 5, .int .i64 a, .int .i64 b, .int .i64 c] 50) = W at *
    have HO := Lib.hid hO
    clear hX hO
    go_still_tail 9, (by kernel_rfl)
    go_wp2
    go_end0
    exact ⟨rfl, OR.drew ((OI.at0 HR2.out).2.2 a (rg r b)), OR.drew (OR.set_other HM2.out (p := ⟨rb, a, none⟩) HO1.out _), (HO.out.set1 _ _).drew⟩
  · -- op 6
    have lb : b ≤ 3 := by have := hb2 (by omega); omega
    have b4 : (b : Int) < 4 := by omega
    have cb := (OI.at0 HR.out).1 b _ (rg_get HRL.out lb)
    clear hb2 hm
    go_enter Try.func73, Try.ntmps73
    go_wp2_with fail
    obtain ⟨d0, d1, d2, d3⟩ := cd_cells w ⟨6, a, b, c⟩ 50
    simp only at d0 d1 d2 d3
    have hX := Ext.alloc w (.cells #[.int .i64 6, .int .i64 a, .int .i64 b, .int .i64 c] 50)
    have hO := HX0.out.alloc (.cells #[.int .i64 6, .int .i64 a, .int .i64 b, .int .i64 c] 50)
    replace ca := hX.cell ca
    replace cb := hX.cell cb
    replace cc := hX.cell cc
    have HR2 := Lib.hid (OR.ext HR.out hX)
    have HM2 := Lib.hid (OR.ext HM.out hX)
    replace fa := (OI.at0 HR2.out).2.1 a
    generalize w.alloc (.cells #[.int .i64 6, .int .i64 a, .int .i64 b, .int .i64 c] 50) = W at *
    have HO := Lib.hid hO
    clear hX hO
    go_still_tail 15, (by kernel_rfl)
    still_call (calls_flip (sWordLess_c _ _ _ wb wc))
    repeat still_step
    try refine wpStill_nil ?_
    go_wp2
    go_end0
    exact ⟨rfl, OR.drew ((OI.at0 HR2.out).2.2 a (lessI (rg r b) (rg r c))), OR.drew (OR.set_other HM2.out (p := ⟨rb, a, none⟩) HO1.out _), (HO.out.set1 _ _).drew⟩
  · -- op 7
    have lb : b ≤ 3 := by have := hb2 (by omega); omega
    have b4 : (b : Int) < 4 := by omega
    have cb := (OI.at0 HR.out).1 b _ (rg_get HRL.out lb)
    clear hb2 hm
    cases hz : rg r c == 0 with
    | true =>
      have hn : (rg r c != 0) = false := by simp [bne, hz]
      have HZ := Lib.hid hz
      clear hz
      go_enter Try.func73, Try.ntmps73
      go_wp2
      go_end0
      have e : simp1 ⟨7, a, b, c⟩ id r m = (r, m) := by simp [simp1, HZ.out]
      refine ⟨rfl, ?_⟩
      unfold Simp1
      rw [e]
      exact ⟨OR.alloc HR.out _, OR.alloc HM.out _, HX0.out.alloc _⟩
    | false =>
      have hn : (rg r c != 0) = true := by simp [bne, hz]
      have HZ := Lib.hid hz
      clear hz
      go_enter Try.func73, Try.ntmps73
      go_wp2_with fail
      obtain ⟨d0, d1, d2, d3⟩ := cd_cells w ⟨7, a, b, c⟩ 50
      simp only at d0 d1 d2 d3
      have hX := Ext.alloc w (.cells #[.int .i64 7, .int .i64 a, .int .i64 b, .int .i64 c] 50)
      have hO := HX0.out.alloc (.cells #[.int .i64 7, .int .i64 a, .int .i64 b, .int .i64 c] 50)
      replace ca := hX.cell ca
      replace cb := hX.cell cb
      replace cc := hX.cell cc
      have HR2 := Lib.hid (OR.ext HR.out hX)
      have HM2 := Lib.hid (OR.ext HM.out hX)
      replace fa := (OI.at0 HR2.out).2.1 a
      generalize w.alloc (.cells #[.int .i64 7, .int .i64 a, .int .i64 b, .int .i64 c] 50) = W at *
      have HO := Lib.hid hO
      clear hX hO
      go_still_tail 9, (by kernel_rfl)
      go_wp2
      go_end0
      have e : simp1 ⟨7, a, b, c⟩ id r m = (r.set a (rg r b), m) := by simp [simp1, HZ.out]
      refine ⟨rfl, ?_⟩
      unfold Simp1
      rw [e]
      exact ⟨OR.drew ((OI.at0 HR2.out).2.2 a (rg r b)), OR.drew (OR.set_other HM2.out (p := ⟨rb, a, none⟩) HO1.out _), (HO.out.set1 _ _).drew⟩
  · -- op 8
    have lb : b ≤ 3 := by have := hb2 (by omega); omega
    have b4 : (b : Int) < 4 := by omega
    have cb := (OI.at0 HR.out).1 b _ (rg_get HRL.out lb)
    clear hb2
    obtain ⟨k, hk0⟩ := Int.eq_ofNat_of_zero_le wb.1
    have hkm : k % mn < mn := Nat.mod_lt _ (by omega)
    have hmod : Int.tmod (rg r b) (mn : Int) = ((k % mn : Nat) : Int) := by rw [hk0, Int.tmod_eq_emod_of_nonneg (by omega)]; omega
    have hwr : IntKind.i64.wrap (Int.tmod (rg r b) (mn : Int)) = ((k % mn : Nat) : Int) := by rw [hmod]; exact IntWalk.i64_in _ (by omega)
    have hidx : (rg r b % (m.length : Int)).toNat = k % mn := by rw [HMN.out, hk0]; omega
    have HIX := Lib.hid hidx
    have hmg : m[k % mn]? = some (m.getD (k % mn) 0) := by rw [List.getD_eq_getElem?_getD, List.getElem?_eq_getElem (by rw [HMN.out]; exact hkm)]; rfl
    have cm := (OI.at0 HM.out).1 _ _ hmg
    have fm := (OI.at0 HM.out).2.1 (k % mn)
    have hmnz : ¬ mn = 0 := by omega
    have hkI : ((k % mn : Nat) : Int) < (mn : Int) := by omega
    have HMG := Lib.hid hmg
    clear hm hmg hidx hk0
    generalize hkk : k % mn = kk at *
    clear hkk
    go_enter Try.func73, Try.ntmps73
    go_wp2_with fail
    obtain ⟨d0, d1, d2, d3⟩ := cd_cells w ⟨8, a, b, c⟩ 50
    simp only at d0 d1 d2 d3
    have hX := Ext.alloc w (.cells #[.int .i64 8, .int .i64 a, .int .i64 b, .int .i64 c] 50)
    have hO := HX0.out.alloc (.cells #[.int .i64 8, .int .i64 a, .int .i64 b, .int .i64 c] 50)
    replace ca := hX.cell ca
    replace cb := hX.cell cb
    replace cc := hX.cell cc
    have HR2 := Lib.hid (OR.ext HR.out hX)
    have HM2 := Lib.hid (OR.ext HM.out hX)
    replace fa := (OI.at0 HR2.out).2.1 a
    replace cm := hX.cell cm
    replace fm := (OI.at0 HM2.out).2.1 kk
    generalize w.alloc (.cells #[.int .i64 8, .int .i64 a, .int .i64 b, .int .i64 c] 50) = W at *
    have HO := Lib.hid hO
    clear hX hO
    go_still_tail 15, (by kernel_rfl)
    clear hmod hwr hmnz
    go_wp2
    go_end0
    have e : simp1 ⟨8, a, b, c⟩ id r m = (r.set a (m.getD kk 0), m) := by simp only [simp1]; rw [HIX.out]; rfl
    refine ⟨rfl, ?_⟩
    unfold Simp1
    rw [e]
    exact ⟨OR.drew ((OI.at0 HR2.out).2.2 a (m.getD kk 0)), OR.drew (OR.set_other HM2.out (p := ⟨rb, a, none⟩) HO1.out _), (HO.out.set1 _ _).drew⟩
  · -- op 9
    have lb : b ≤ 3 := by have := hb2 (by omega); omega
    have b4 : (b : Int) < 4 := by omega
    have cb := (OI.at0 HR.out).1 b _ (rg_get HRL.out lb)
    clear hb2
    obtain ⟨k, hk0⟩ := Int.eq_ofNat_of_zero_le wb.1
    have hkm : k % mn < mn := Nat.mod_lt _ (by omega)
    have hmod : Int.tmod (rg r b) (mn : Int) = ((k % mn : Nat) : Int) := by rw [hk0, Int.tmod_eq_emod_of_nonneg (by omega)]; omega
    have hwr : IntKind.i64.wrap (Int.tmod (rg r b) (mn : Int)) = ((k % mn : Nat) : Int) := by rw [hmod]; exact IntWalk.i64_in _ (by omega)
    have hidx : (rg r b % (m.length : Int)).toNat = k % mn := by rw [HMN.out, hk0]; omega
    have HIX := Lib.hid hidx
    have hmg : m[k % mn]? = some (m.getD (k % mn) 0) := by rw [List.getD_eq_getElem?_getD, List.getElem?_eq_getElem (by rw [HMN.out]; exact hkm)]; rfl
    have cm := (OI.at0 HM.out).1 _ _ hmg
    have fm := (OI.at0 HM.out).2.1 (k % mn)
    have hmnz : ¬ mn = 0 := by omega
    have hkI : ((k % mn : Nat) : Int) < (mn : Int) := by omega
    have HMG := Lib.hid hmg
    clear hm hmg hidx hk0
    generalize hkk : k % mn = kk at *
    clear hkk
    go_enter Try.func73, Try.ntmps73
    go_wp2_with fail
    obtain ⟨d0, d1, d2, d3⟩ := cd_cells w ⟨9, a, b, c⟩ 50
    simp only at d0 d1 d2 d3
    have hX := Ext.alloc w (.cells #[.int .i64 9, .int .i64 a, .int .i64 b, .int .i64 c] 50)
    have hO := HX0.out.alloc (.cells #[.int .i64 9, .int .i64 a, .int .i64 b, .int .i64 c] 50)
    replace ca := hX.cell ca
    replace cb := hX.cell cb
    replace cc := hX.cell cc
    have HR2 := Lib.hid (OR.ext HR.out hX)
    have HM2 := Lib.hid (OR.ext HM.out hX)
    replace fa := (OI.at0 HR2.out).2.1 a
    replace cm := hX.cell cm
    replace fm := (OI.at0 HM2.out).2.1 kk
    generalize w.alloc (.cells #[.int .i64 9, .int .i64 a, .int .i64 b, .int .i64 c] 50) = W at *
    have HO := Lib.hid hO
    clear hX hO
    go_still_tail 15, (by kernel_rfl)
    clear hmod hwr hmnz
    go_wp2
    go_end0
    have e : simp1 ⟨9, a, b, c⟩ id r m = (r, m.set kk (rg r a)) := by simp only [simp1]; rw [HIX.out]; rfl
    refine ⟨rfl, ?_⟩
    unfold Simp1
    rw [e]
    exact ⟨OR.drew (OR.set_other HR2.out (p := ⟨mb, kk, none⟩) HO2.out _), OR.drew ((OI.at0 HM2.out).2.2 kk (rg r a)), (HO.out.set2 _ _).drew⟩
  · clear hb2 hm
    go_enter Try.func73, Try.ntmps73
    go_wp2
    go_end0
    exact ⟨rfl, OR.alloc HR.out _, OR.alloc HM.out _, HX0.out.alloc _⟩
end Go.Proofs.Ytfgbbajkdpideaa
