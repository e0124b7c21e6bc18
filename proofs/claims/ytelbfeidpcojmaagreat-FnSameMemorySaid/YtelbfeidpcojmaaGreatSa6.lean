/- Part 6 of what the claim needs. -/
import Derived.Test.YtelbfeidpcojmaaGreatSa4
import Derived.Test.YtelbfeidpcojmaaGreatSa5
import Derived.StillTailTactics
namespace Go.Proofs.YtelbfeidpcojmaaGreat
open Go.RowKit
set_option linter.unusedVariables false
set_option linter.unusedSimpArgs false

set_option maxRecDepth 100000 in
set_option maxHeartbeats 16000000 in
theorem l6Simple_c (x : Cd) (id : Nat) (r m : List Int) (base rb rc mb mc mn : Nat) (w : World) (hv : cvOk x = true) (h10 : x.op ≤ 10) (hid : id ≤ 7)
    (hR : OI w base (some ⟨rb, 0, none⟩) 4 rc r) (hM : OI w base (some ⟨mb, 0, none⟩) mn mc m) (hne : rb ≠ mb) (hr : wordsOk r) (hm : wordsOk m) (hml : 1 ≤ mn ∧ mn ≤ 32) :
    Calls Tryz.prog 102 #[.slice (some ⟨rb, 0, none⟩) 4 rc, .slice (some ⟨mb, 0, none⟩) mn mc, x.val, .int .i64 id] w fun e w' => e = .returned (.tuple #[]) ∧ Simp1 w base rb rc mb mn mc x id r m w' := by
  have hrl : r.length = 4 := OI.len hR
  have hmn : m.length = mn := OI.len hM
  obtain ⟨hRb0, hRb1⟩ := OR.block hR rb rfl
  obtain ⟨hMb0, hMb1⟩ := OR.block hM mb rfl
  obtain ⟨hm1, hm2⟩ := hml
  have ha := cvOk_a hv
  have hb := cvOk_b hv
  have hc := cvOk_c hv
  have hb2 := cvOk_b2 hv
  have ho := op14' hv h10
  obtain ⟨a, hae⟩ := Int.eq_ofNat_of_zero_le ha.1
  obtain ⟨b, hbe⟩ := Int.eq_ofNat_of_zero_le hb.1
  obtain ⟨c, hce⟩ := Int.eq_ofNat_of_zero_le hc.1
  obtain ⟨o, xa, xb, xc⟩ := x
  simp only at ha hb hc hb2 hae hbe hce ho h10
  subst hae hbe hce
  have la : a ≤ 3 := by omega
  have lc : c ≤ 3 := by omega
  have a4 : (a : Int) < 4 := by omega
  have c4 : (c : Int) < 4 := by omega
  have ca := (OI.at0 hR).1 a _ (rg_get hrl la)
  have cc := (OI.at0 hR).1 c _ (rg_get hrl lc)
  have wa := rg_word hr a
  have wc := rg_word hr c
  have wb := rg_word hr b
  have fa := (OI.at0 hR).2.1 a
  have HR := Lib.hid hR
  have HM := Lib.hid hM
  have HRL := Lib.hid hrl
  have HMN := Lib.hid hmn
  have hob1 : Value.ownBlock (.slice (some ⟨mb, 0, none⟩) mn mc) ≠ some rb := fun e => hne (by injection e with e; exact e.symm)
  have hob2 : Value.ownBlock (.slice (some ⟨rb, 0, none⟩) 4 rc) ≠ some mb := fun e => hne (by injection e with e)
  have HO1 := Lib.hid hob1
  have HO2 := Lib.hid hob2
  have HX0 := Lib.hid (Off.refl w rb mb)
  clear hR hM hr hrl hmn hv hob1 hob2
  unfold Cd.val
  rcases ho with rfl | rfl | rfl | rfl | rfl | rfl | rfl | rfl | rfl | rfl
  · clear hb2 hm
    go_enter Tryz.func102, Tryz.ntmps102
    go_wp2
    go_end0
    exact ⟨rfl, OR.alloc ((OI.at0 HR.out).2.2 a b) _, OR.alloc (OR.set_other HM.out (p := ⟨rb, a, none⟩) HO1.out _) _, (HX0.out.set1 _ _).alloc _⟩
  · clear hb2 hm
    go_enter Tryz.func102, Tryz.ntmps102
    go_wp2
    go_end0
    exact ⟨rfl, OR.alloc ((OI.at0 HR.out).2.2 a id) _, OR.alloc (OR.set_other HM.out (p := ⟨rb, a, none⟩) HO1.out _) _, (HX0.out.set1 _ _).alloc _⟩
  · -- op 3
    have lb : b ≤ 3 := by have := hb2 (by omega); omega
    have b4 : (b : Int) < 4 := by omega
    have cb := (OI.at0 HR.out).1 b _ (rg_get HRL.out lb)
    clear hb2 hm
    go_enter Tryz.func102, Tryz.ntmps102
    go_wp2_with fail
    obtain ⟨d0, d1, d2, d3⟩ := cd_cells w ⟨3, a, b, c⟩ 76
    simp only at d0 d1 d2 d3
    have hX := Ext.alloc w (.cells #[.int .i64 3, .int .i64 a, .int .i64 b, .int .i64 c] 76)
    have hO := HX0.out.alloc (.cells #[.int .i64 3, .int .i64 a, .int .i64 b, .int .i64 c] 76)
    replace ca := hX.cell ca
    replace cb := hX.cell cb
    replace cc := hX.cell cc
    have HR2 := Lib.hid (OR.ext HR.out hX)
    have HM2 := Lib.hid (OR.ext HM.out hX)
    replace fa := (OI.at0 HR2.out).2.1 a
    generalize w.alloc (.cells #[.int .i64 3, .int .i64 a, .int .i64 b, .int .i64 c] 76) = W at *
    have HO := Lib.hid hO
    clear hX hO
    go_still_tail 15, (by kernel_rfl)
    still_call (calls_flip (sWordAdd_c _ _ _ wa wb))
    repeat still_step
    try refine wpStill_nil ?_
    go_wp2
    go_end0
    exact ⟨rfl, OR.drew ((OI.at0 HR2.out).2.2 a ((rg r a + rg r b) % 256)), OR.drew (OR.set_other HM2.out (p := ⟨rb, a, none⟩) HO1.out _), (HO.out.set1 _ _).drew⟩
  · -- op 4
    have lb : b ≤ 3 := by have := hb2 (by omega); omega
    have b4 : (b : Int) < 4 := by omega
    have cb := (OI.at0 HR.out).1 b _ (rg_get HRL.out lb)
    clear hb2 hm
    go_enter Tryz.func102, Tryz.ntmps102
    go_wp2_with fail
    obtain ⟨d0, d1, d2, d3⟩ := cd_cells w ⟨4, a, b, c⟩ 76
    simp only at d0 d1 d2 d3
    have hX := Ext.alloc w (.cells #[.int .i64 4, .int .i64 a, .int .i64 b, .int .i64 c] 76)
    have hO := HX0.out.alloc (.cells #[.int .i64 4, .int .i64 a, .int .i64 b, .int .i64 c] 76)
    replace ca := hX.cell ca
    replace cb := hX.cell cb
    replace cc := hX.cell cc
    have HR2 := Lib.hid (OR.ext HR.out hX)
    have HM2 := Lib.hid (OR.ext HM.out hX)
    replace fa := (OI.at0 HR2.out).2.1 a
    generalize w.alloc (.cells #[.int .i64 4, .int .i64 a, .int .i64 b, .int .i64 c] 76) = W at *
    have HO := Lib.hid hO
    clear hX hO
    go_still_tail 15, (by kernel_rfl)
    still_call (calls_flip (sWordMul_c _ _ _ wa wb))
    repeat still_step
    try refine wpStill_nil ?_
    go_wp2
    go_end0
    exact ⟨rfl, OR.drew ((OI.at0 HR2.out).2.2 a (rg r a * rg r b % 256)), OR.drew (OR.set_other HM2.out (p := ⟨rb, a, none⟩) HO1.out _), (HO.out.set1 _ _).drew⟩
  · -- op 5
    have lb : b ≤ 3 := by have := hb2 (by omega); omega
    have b4 : (b : Int) < 4 := by omega
    have cb := (OI.at0 HR.out).1 b _ (rg_get HRL.out lb)
    clear hb2 hm
    go_enter Tryz.func102, Tryz.ntmps102
    go_wp2_with fail
    obtain ⟨d0, d1, d2, d3⟩ := cd_cells w ⟨5, a, b, c⟩ 76
    simp only at d0 d1 d2 d3
    have hX := Ext.alloc w (.cells #[.int .i64 5, .int .i64 a, .int .i64 b, .int .i64 c] 76)
    have hO := HX0.out.alloc (.cells #[.int .i64 5, .int .i64 a, .int .i64 b, .int .i64 c] 76)
    replace ca := hX.cell ca
    replace cb := hX.cell cb
    replace cc := hX.cell cc
    have HR2 := Lib.hid (OR.ext HR.out hX)
    have HM2 := Lib.hid (OR.ext HM.out hX)
    replace fa := (OI.at0 HR2.out).2.1 a
    generalize w.alloc (.cells #[.int .i64 5, .int .i64 a, .int .i64 b, .int .i64 c] 76) = W at *
    have HO := Lib.hid hO
    clear hX hO
    go_still_tail 9, (by kernel_rfl)
    go_wp2
    go_end0
    exact ⟨rfl, OR.drew ((OI.at0 HR2.out).2.2 a (rg r b)), OR.drew (OR.set_other HM2.out (p := ⟨rb, a, none⟩) HO1.out _), (HO.out.set1 _ _).drew⟩
  · -- op 6
    have lb : b ≤ 3 := by have := hb2 (by omega); omega
    have b4 : (b : Int) < 4 := by omega
    have cb := (OI.at0 HR.out).1 b _ (rg_get HRL.out lb)
    clear hb2 hm
    go_enter Tryz.func102, Tryz.ntmps102
    go_wp2_with fail
    obtain ⟨d0, d1, d2, d3⟩ := cd_cells w ⟨6, a, b, c⟩ 76
    simp only at d0 d1 d2 d3
    have hX := Ext.alloc w (.cells #[.int .i64 6, .int .i64 a, .int .i64 b, .int .i64 c] 76)
    have hO := HX0.out.alloc (.cells #[.int .i64 6, .int .i64 a, .int .i64 b, .int .i64 c] 76)
    replace ca := hX.cell ca
    replace cb := hX.cell cb
    replace cc := hX.cell cc
    have HR2 := Lib.hid (OR.ext HR.out hX)
    have HM2 := Lib.hid (OR.ext HM.out hX)
    replace fa := (OI.at0 HR2.out).2.1 a
    generalize w.alloc (.cells #[.int .i64 6, .int .i64 a, .int .i64 b, .int .i64 c] 76) = W at *
    have HO := Lib.hid hO
    clear hX hO
    go_still_tail 15, (by kernel_rfl)
    still_call (calls_flip (sWordLess_c _ _ _ wb wc))
    repeat still_step
    try refine wpStill_nil ?_
    go_wp2
    go_end0
    exact ⟨rfl, OR.drew ((OI.at0 HR2.out).2.2 a (lessI (rg r b) (rg r c))), OR.drew (OR.set_other HM2.out (p := ⟨rb, a, none⟩) HO1.out _), (HO.out.set1 _ _).drew⟩
  · -- op 7
    have lb : b ≤ 3 := by have := hb2 (by omega); omega
    have b4 : (b : Int) < 4 := by omega
    have cb := (OI.at0 HR.out).1 b _ (rg_get HRL.out lb)
    clear hb2 hm
    cases hz : rg r c == 0 with
    | true =>
      have hn : (rg r c != 0) = false := by simp [bne, hz]
      have HZ := Lib.hid hz
      clear hz
      go_enter Tryz.func102, Tryz.ntmps102
      go_wp2
      go_end0
      have e : simp1 ⟨7, a, b, c⟩ id r m = (r, m) := by simp [simp1, HZ.out]
      refine ⟨rfl, ?_⟩
      unfold Simp1
      rw [e]
      exact ⟨OR.alloc HR.out _, OR.alloc HM.out _, HX0.out.alloc _⟩
    | false =>
      have hn : (rg r c != 0) = true := by simp [bne, hz]
      have HZ := Lib.hid hz
      clear hz
      go_enter Tryz.func102, Tryz.ntmps102
      go_wp2_with fail
      obtain ⟨d0, d1, d2, d3⟩ := cd_cells w ⟨7, a, b, c⟩ 76
      simp only at d0 d1 d2 d3
      have hX := Ext.alloc w (.cells #[.int .i64 7, .int .i64 a, .int .i64 b, .int .i64 c] 76)
      have hO := HX0.out.alloc (.cells #[.int .i64 7, .int .i64 a, .int .i64 b, .int .i64 c] 76)
      replace ca := hX.cell ca
      replace cb := hX.cell cb
      replace cc := hX.cell cc
      have HR2 := Lib.hid (OR.ext HR.out hX)
      have HM2 := Lib.hid (OR.ext HM.out hX)
      replace fa := (OI.at0 HR2.out).2.1 a
      generalize w.alloc (.cells #[.int .i64 7, .int .i64 a, .int .i64 b, .int .i64 c] 76) = W at *
      have HO := Lib.hid hO
      clear hX hO
      go_still_tail 9, (by kernel_rfl)
      go_wp2
      go_end0
      have e : simp1 ⟨7, a, b, c⟩ id r m = (r.set a (rg r b), m) := by simp [simp1, HZ.out]
      refine ⟨rfl, ?_⟩
      unfold Simp1
      rw [e]
      exact ⟨OR.drew ((OI.at0 HR2.out).2.2 a (rg r b)), OR.drew (OR.set_other HM2.out (p := ⟨rb, a, none⟩) HO1.out _), (HO.out.set1 _ _).drew⟩
  · -- op 8
    have lb : b ≤ 3 := by have := hb2 (by omega); omega
    have b4 : (b : Int) < 4 := by omega
    have cb := (OI.at0 HR.out).1 b _ (rg_get HRL.out lb)
    clear hb2
    obtain ⟨k, hk0⟩ := Int.eq_ofNat_of_zero_le wb.1
    have hkm : k % mn < mn := Nat.mod_lt _ (by omega)
    have hmod : Int.tmod (rg r b) (mn : Int) = ((k % mn : Nat) : Int) := by rw [hk0, Int.tmod_eq_emod_of_nonneg (by omega)]; omega
    have hwr : IntKind.i64.wrap (Int.tmod (rg r b) (mn : Int)) = ((k % mn : Nat) : Int) := by rw [hmod]; exact IntWalk.i64_in _ (by omega)
    have hidx : (rg r b % (m.length : Int)).toNat = k % mn := by rw [HMN.out, hk0]; omega
    have HIX := Lib.hid hidx
    have hmg : m[k % mn]? = some (m.getD (k % mn) 0) := by rw [List.getD_eq_getElem?_getD, List.getElem?_eq_getElem (by rw [HMN.out]; exact hkm)]; rfl
    have cm := (OI.at0 HM.out).1 _ _ hmg
    have fm := (OI.at0 HM.out).2.1 (k % mn)
    have hmnz : ¬ mn = 0 := by omega
    have hkI : ((k % mn : Nat) : Int) < (mn : Int) := by omega
    have HMG := Lib.hid hmg
    clear hm hmg hidx hk0
    generalize hkk : k % mn = kk at *
    clear hkk
    go_enter Tryz.func102, Tryz.ntmps102
    go_wp2_with fail
    obtain ⟨d0, d1, d2, d3⟩ := cd_cells w ⟨8, a, b, c⟩ 76
    simp only at d0 d1 d2 d3
    have hX := Ext.alloc w (.cells #[.int .i64 8, .int .i64 a, .int .i64 b, .int .i64 c] 76)
    have hO := HX0.out.alloc (.cells #[.int .i64 8, .int .i64 a, .int .i64 b, .int .i64 c] 76)
    replace ca := hX.cell ca
    replace cb := hX.cell cb
    replace cc := hX.cell cc
    have HR2 := Lib.hid (OR.ext HR.out hX)
    have HM2 := Lib.hid (OR.ext HM.out hX)
    replace fa := (OI.at0 HR2.out).2.1 a
    replace cm := hX.cell cm
    replace fm := (OI.at0 HM2.out).2.1 kk
    generalize w.alloc (.cells #[.int .i64 8, .int .i64 a, .int .i64 b, .int .i64 c] 76) = W at *
    have HO := Lib.hid hO
    clear hX hO
    go_still_tail 15, (by kernel_rfl)
    clear hmod hwr hmnz
    go_wp2
    go_end0
    have e : simp1 ⟨8, a, b, c⟩ id r m = (r.set a (m.getD kk 0), m) := by simp only [simp1]; rw [HIX.out]; rfl
    refine ⟨rfl, ?_⟩
    unfold Simp1
    rw [e]
    exact ⟨OR.drew ((OI.at0 HR2.out).2.2 a (m.getD kk 0)), OR.drew (OR.set_other HM2.out (p := ⟨rb, a, none⟩) HO1.out _), (HO.out.set1 _ _).drew⟩
  · -- op 9
    have lb : b ≤ 3 := by have := hb2 (by omega); omega
    have b4 : (b : Int) < 4 := by omega
    have cb := (OI.at0 HR.out).1 b _ (rg_get HRL.out lb)
    clear hb2
    obtain ⟨k, hk0⟩ := Int.eq_ofNat_of_zero_le wb.1
    have hkm : k % mn < mn := Nat.mod_lt _ (by omega)
    have hmod : Int.tmod (rg r b) (mn : Int) = ((k % mn : Nat) : Int) := by rw [hk0, Int.tmod_eq_emod_of_nonneg (by omega)]; omega
    have hwr : IntKind.i64.wrap (Int.tmod (rg r b) (mn : Int)) = ((k % mn : Nat) : Int) := by rw [hmod]; exact IntWalk.i64_in _ (by omega)
    have hidx : (rg r b % (m.length : Int)).toNat = k % mn := by rw [HMN.out, hk0]; omega
    have HIX := Lib.hid hidx
    have hmg : m[k % mn]? = some (m.getD (k % mn) 0) := by rw [List.getD_eq_getElem?_getD, List.getElem?_eq_getElem (by rw [HMN.out]; exact hkm)]; rfl
    have cm := (OI.at0 HM.out).1 _ _ hmg
    have fm := (OI.at0 HM.out).2.1 (k % mn)
    have hmnz : ¬ mn = 0 := by omega
    have hkI : ((k % mn : Nat) : Int) < (mn : Int) := by omega
    have HMG := Lib.hid hmg
    clear hm hmg hidx hk0
    generalize hkk : k % mn = kk at *
    clear hkk
    go_enter Tryz.func102, Tryz.ntmps102
    go_wp2_with fail
    obtain ⟨d0, d1, d2, d3⟩ := cd_cells w ⟨9, a, b, c⟩ 76
    simp only at d0 d1 d2 d3
    have hX := Ext.alloc w (.cells #[.int .i64 9, .int .i64 a, .int .i64 b, .int .i64 c] 76)
    have hO := HX0.out.alloc (.cells #[.int .i64 9, .int .i64 a, .int .i64 b, .int .i64 c] 76)
    replace ca := hX.cell ca
    replace cb := hX.cell cb
    replace cc := hX.cell cc
    have HR2 := Lib.hid (OR.ext HR.out hX)
    have HM2 := Lib.hid (OR.ext HM.out hX)
    replace fa := (OI.at0 HR2.out).2.1 a
    replace cm := hX.cell cm
    replace fm := (OI.at0 HM2.out).2.1 kk
    generalize w.alloc (.cells #[.int .i64 9, .int .i64 a, .int .i64 b, .int .i64 c] 76) = W at *
    have HO := Lib.hid hO
    clear hX hO
    go_still_tail 15, (by kernel_rfl)
    clear hmod hwr hmnz
    go_wp2
    go_end0
    have e : simp1 ⟨9, a, b, c⟩ id r m = (r, m.set kk (rg r a)) := by simp only [simp1]; rw [HIX.out]; rfl
    refine ⟨rfl, ?_⟩
    unfold Simp1
    rw [e]
    exact ⟨OR.drew (OR.set_other HR2.out (p := ⟨mb, kk, none⟩) HO2.out _), OR.drew ((OI.at0 HM2.out).2.2 kk (rg r a)), (HO.out.set2 _ _).drew⟩
  · clear hb2 hm
    go_enter Tryz.func102, Tryz.ntmps102
    go_wp2
    go_end0
    exact ⟨rfl, OR.alloc HR.out _, OR.alloc HM.out _, HX0.out.alloc _⟩


/-- The reader at block g: it reads a row of bytes that lies below B; it has been read at most K times. -/
def RdS (w : World) (B g K : Nat) : Prop :=
  ∃ (A : Option Addr) (c p : Nat) (bs : List Int), w.heap[g]? = some (.cells #[.slice A bs.length c, .int .i64 p] 60 (0, 0)) ∧ Reads w B 1 A bs.length (bs.map (.int .u8)) ∧ (∀ x ∈ bs, 0 ≤ x ∧ x ≤ 255) ∧ bs.length ≤ 2000 ∧ p ≤ K ∧ B ≤ g

section
variable {w w' : World} {B g K : Nat}
theorem RdS.lt (h : RdS w B g K) : g < w.heap.size := by
  obtain ⟨A, c, p, bs, hb, -⟩ := h
  exact lt_of_block hb
theorem RdS.base (h : RdS w B g K) : B ≤ g := by
  obtain ⟨A, c, p, bs, -, -, -, -, -, h⟩ := h
  exact h
theorem RdS.more (h : RdS w B g K) {K' : Nat} (hK : K ≤ K') : RdS w B g K' := by
  obtain ⟨A, c, p, bs, h1, h2, h3, h4, h5, h6⟩ := h
  exact ⟨A, c, p, bs, h1, h2, h3, h4, by omega, h6⟩
/-- Something else is written, or made. -/
theorem RdS.off (h : RdS w B g K) {row : Option Nat} (hg : w.grownBy w' row) (hne : ∀ k, row = some k → B ≤ k ∧ k ≠ g) : RdS w' B g K := by
  obtain ⟨A, c, p, bs, h1, h2, h3, h4, h5, h6⟩ := h
  have hlt := lt_of_block h1
  refine ⟨A, c, p, bs, (hg.block g hlt (fun e => (hne g e.symm).2 rfl)).trans h1, h2.keep fun q hq => ?_, h3, h4, h5, h6⟩
  exact World.cell?_of_block (hg.block _ (by omega) (fun e => by have := (hne _ e.symm).1; omega))
theorem RdS.alloc (h : RdS w B g K) (o : Obj) : RdS (w.alloc o) B g K := h.off (World.grownBy_alloc _ _ none) (fun _ e => by cases e)
theorem RdS.drew (h : RdS w B g K) : RdS w.drew B g K := h
theorem RdS.drewN (h : RdS w B g K) (n : Nat) : RdS (w.drewN n) B g K := h
end

theorem bits_xor64 (a b : Nat) (ha : a < 4611686018427387904) (hb : b < 4611686018427387904) : bits .xor .i64 (a : Int) (b : Int) = ((a ^^^ b : Nat) : Int) := by
  have h : a ^^^ b < 2 ^ 62 := Nat.xor_lt_two_pow (by simpa using ha) (by simpa using hb)
  show IntKind.i64.wrap ((BitVec.ofInt 64 (a : Int) ^^^ BitVec.ofInt 64 (b : Int)).toNat : Int) = _
  rw [BitVec.toNat_xor, ofInt_nat64 a (by omega), ofInt_nat64 b (by omega)]
  exact wrap64_small _ (by omega) (by omega)

set_option maxRecDepth 100000 in
set_option maxHeartbeats 4000000 in
theorem pick_c {w : World} {B g K : Nat} (h : RdS w B g K) (hK : K ≤ 1000000000) (n : Nat) (hn1 : 1 ≤ n) (hn : n ≤ 1000000000) :
    Calls Tryz.prog 19 #[.pointer (some ⟨g, 0, none⟩), .int .i64 n] w fun e w' => ∃ v : Nat, e = .returned (.int .i64 v) ∧ v < n ∧ RdS w' B g (K + 1) ∧ w.grownBy w' (some g) ∧ w'.heap.size = w.heap.size ∧ ∃ q k : Nat, q ≤ K + 1 ∧ w' = (w.setCell ⟨g, 1, none⟩ (.int .i64 q)).drewN k := by
  obtain ⟨A, c, p, bs, h1, h2, h3, h4, h5, h6⟩ := h
  have c0 := cell_of_heap h1 0
  have c1 := cell_of_heap h1 1
  have f1 := free_of_heap h1 1
  have hX := Lib.hid (show RdS (w.setCell ⟨g, 1, none⟩ (.int .i64 ((p : Int) + 1))) B g (K + 1) from by
    refine ⟨A, c, p + 1, bs, ?_, h2.keep fun q hq => ?_, h3, h4, by omega, h6⟩
    · rw [heap_set_same h1]; rfl
    · rw [World.cell?_setCell_other]; intro e; subst e; simp at hq; omega)
  have hG := Lib.hid (show w.grownBy (w.setCell ⟨g, 1, none⟩ (.int .i64 ((p : Int) + 1))) (some g) from grown_set (grown_refl w _) 1 _)
  have hp1 : IntKind.i64.wrap ((p : Int) + 1) = (p : Int) + 1 := IntWalk.i64_in _ (by omega)
  have n1 : decide ((n : Int) < 1) = false := decide_eq_false (by omega)
  by_cases h0 : bs.length = 0
  · rw [h0] at c0
    go_enter Tryz.func19, Tryz.ntmps19
    go_wp2
    go_ret
    exact ⟨0, rfl, by omega, hX.out, hG.out, by simp [World.setCell], p + 1, 0, by omega, rfl⟩
  · have n0 : ((bs.length : Int) == 0) = false := by rw [beq_eq_false_iff_ne]; omega
    by_cases hlt : p < bs.length
    · obtain ⟨b, off, rfl, hbB, hc⟩ := h2.2 (by omega)
      have hx : bs[p]? = some (bs[p]) := List.getElem?_eq_getElem hlt
      have hxr := h3 _ (List.getElem_mem hlt)
      generalize bs[p] = x at hx hxr
      obtain ⟨xn, rfl⟩ := Int.eq_ofNat_of_zero_le hxr.1
      have cx := hc p (.int .u8 xn) (by rw [List.getElem?_map, hx]; rfl)
      have hne : b ≠ g := by omega
      have q1 : IntKind.i64.wrap ((p : Int) + 1 - 1) = (p : Int) := by rw [show (p : Int) + 1 - 1 = (p : Int) by omega]; exact IntWalk.i64_in _ (by omega)
      have q2 : IntKind.i64.wrap (xn : Int) = (xn : Int) := IntWalk.i64_in _ (by omega)
      have q3 : Int.tmod (xn : Int) (n : Int) = ((xn % n : Nat) : Int) := by rw [Int.tmod_eq_emod_of_nonneg (by omega)]; omega
      have q4 : IntKind.i64.wrap ((xn % n : Nat) : Int) = ((xn % n : Nat) : Int) := IntWalk.i64_in _ (by have := Nat.mod_lt xn (show n > 0 by omega); omega)
      have hr := Nat.mod_lt xn (show n > 0 by omega)
      have lp : (p : Int) < (bs.length : Int) := by omega
      clear hc h2 hx h3
      go_enter Tryz.func19, Tryz.ntmps19
      go_wp2
      go_ret
      exact ⟨xn % n, rfl, hr, hX.out, hG.out, by simp [World.setCell], p + 1, 0, by omega, rfl⟩
    · have hlen : 1 ≤ bs.length := by omega
      obtain ⟨b, off, rfl, hbB, hc⟩ := h2.2 (by omega)
      have hi1 : p % bs.length < bs.length := Nat.mod_lt _ (by omega)
      have hi2 : (p * 7 + 3) % bs.length < bs.length := Nat.mod_lt _ (by omega)
      have hx1 : bs[p % bs.length]? = some (bs[p % bs.length]) := List.getElem?_eq_getElem hi1
      have hx2 : bs[(p * 7 + 3) % bs.length]? = some (bs[(p * 7 + 3) % bs.length]) := List.getElem?_eq_getElem hi2
      have hr1 := h3 _ (List.getElem_mem hi1)
      have hr2 := h3 _ (List.getElem_mem hi2)
      generalize bs[p % bs.length] = y1 at hx1 hr1
      generalize bs[(p * 7 + 3) % bs.length] = y2 at hx2 hr2
      obtain ⟨x1, rfl⟩ := Int.eq_ofNat_of_zero_le hr1.1
      obtain ⟨x2, rfl⟩ := Int.eq_ofNat_of_zero_le hr2.1
      have cx1 := hc _ (.int .u8 x1) (by rw [List.getElem?_map, hx1]; rfl)
      have cx2 := hc _ (.int .u8 x2) (by rw [List.getElem?_map, hx2]; rfl)
      have hne : b ≠ g := by omega
      have q1 : IntKind.i64.wrap ((p : Int) + 1 - 1) = (p : Int) := by rw [show (p : Int) + 1 - 1 = (p : Int) by omega]; exact IntWalk.i64_in _ (by omega)
      have t1 : Int.tmod (p : Int) (bs.length : Int) = ((p % bs.length : Nat) : Int) := by rw [Int.tmod_eq_emod_of_nonneg (by omega)]; omega
      have t2 : Int.tmod ((p : Int) * 7 + 3) (bs.length : Int) = (((p * 7 + 3) % bs.length : Nat) : Int) := by rw [Int.tmod_eq_emod_of_nonneg (by omega)]; push_cast; rfl
      have t3 : Int.tdiv (p : Int) (bs.length : Int) = ((p / bs.length : Nat) : Int) := by rw [Int.tdiv_eq_ediv_of_nonneg (by omega)]; omega
      have hd : p / bs.length ≤ p := Nat.div_le_self _ _
      generalize p % bs.length = i1 at *
      generalize (p * 7 + 3) % bs.length = i2 at *
      generalize p / bs.length = d at *
      obtain ⟨V, hV⟩ : ∃ V : Nat, bits .xor .i64 ((x1 : Int) * 131 + (x2 : Int) * 1117 + (p : Int) * 29 + (d : Int) * 53) (((x1 : Int) * 131 + (x2 : Int) * 1117 + (p : Int) * 29 + (d : Int) * 53) / 64) = (V : Int) := ⟨_, by
        rw [show (x1 : Int) * 131 + (x2 : Int) * 1117 + (p : Int) * 29 + (d : Int) * 53 = ((x1 * 131 + x2 * 1117 + p * 29 + d * 53 : Nat) : Int) by push_cast; rfl, show (((x1 * 131 + x2 * 1117 + p * 29 + d * 53 : Nat) : Int)) / 64 = (((x1 * 131 + x2 * 1117 + p * 29 + d * 53) / 64 : Nat) : Int) by omega]
        exact bits_xor64 _ _ (by omega) (by omega)⟩
      have t4 : Int.tmod (V : Int) (n : Int) = ((V % n : Nat) : Int) := by rw [Int.tmod_eq_emod_of_nonneg (by omega)]; omega
      have hr := Nat.mod_lt V (show n > 0 by omega)
      clear hc h2 hx1 hx2 h3
      go_enter Tryz.func19, Tryz.ntmps19
      go_wp2_with fail
      go_quiet (fail)
      go_wp2
      go_ret
      exact ⟨V % n, rfl, hr, hX.out, ⟨hG.out.os, hG.out.tape, hG.out.output, hG.out.size, hG.out.block⟩, by show (w.setCell ⟨g, 1, none⟩ _).heap.size = _; simp [World.setCell], p + 1, _, by omega, rfl⟩

/-- The same, for a number as it is written. -/
theorem pick_i {w : World} {B g K : Nat} (h : RdS w B g K) (hK : K ≤ 1000000000) (m : Int) (h1 : 1 ≤ m) (h2 : m ≤ 1000000000) :
    Calls Tryz.prog 19 #[.pointer (some ⟨g, 0, none⟩), .int .i64 m] w fun e w' => ∃ v : Nat, e = .returned (.int .i64 v) ∧ (v : Int) < m ∧ RdS w' B g (K + 1) ∧ w.grownBy w' (some g) ∧ w'.heap.size = w.heap.size ∧ ∃ q k : Nat, q ≤ K + 1 ∧ w' = (w.setCell ⟨g, 1, none⟩ (.int .i64 q)).drewN k := by
  obtain ⟨n, rfl⟩ := Int.eq_ofNat_of_zero_le (show 0 ≤ m by omega)
  refine (pick_c h hK n (by omega) (by omega)).mono ?_
  rintro e w1 ⟨v, he, hv, hr⟩
  exact ⟨v, he, by omega, hr⟩

theorem odd_c {w : World} {B g K : Nat} (h : RdS w B g K) (hK : K ≤ 1000000000) (n : Nat) (hn : n ≤ 1000000000) :
    Calls Tryz.prog 21 #[.pointer (some ⟨g, 0, none⟩), .int .i64 n] w fun e w' => ∃ v : Bool, e = .returned (.bool v) ∧ (n = 0 → v = false) ∧ RdS w' B g (K + 1) ∧ w.grownBy w' (some g) ∧ w'.heap.size = w.heap.size := by
  by_cases h0 : n = 0
  · subst h0
    go_enter Tryz.func21, Tryz.ntmps21
    go_wp2
    go_ret
    exact ⟨false, rfl, fun _ => rfl, h.more (by omega), grown_refl _ _, rfl⟩
  · have hp : decide ((n : Int) > 0) = true := decide_eq_true (by omega)
    have hq : IntKind.i64.wrap ((n : Int) - 1) = (n : Int) - 1 := IntWalk.i64_in _ (by omega)
    go_enter Tryz.func21, Tryz.ntmps21
    go_wp2_with fail
    refine (pick_c h hK n (by omega) hn).mono ?_
    rintro e w1 ⟨v, rfl, hv, h1, hg, hs, -⟩
    go_wp2
    go_ret
    exact ⟨_, rfl, fun e => absurd e h0, h1, hg, hs⟩

theorem Reads.sub0 {w : World} {B : Nat} {A : Option Addr} {xs : List Int} {k : IntKind} (h : Reads w B 1 A xs.length (xs.map (.int k))) (n : Nat) (hn : n ≤ xs.length) : Reads w B 1 A (xs.take n).length ((xs.take n).map (.int k)) := by
  refine ⟨by simp, fun hp => ?_⟩
  have hl : (xs.take n).length = n := by simp; omega
  obtain ⟨b, off, e, hb, hc⟩ := h.2 (by omega)
  refine ⟨b, off, e, hb, fun j u hu => hc j u ?_⟩
  rw [List.getElem?_map, List.getElem?_take] at hu
  split at hu
  · rw [List.getElem?_map]; exact hu
  · simp at hu
theorem l20Open_c (A : Option Addr) (c : Nat) (bs : List Int) (w : World) (hA : Reads w w.heap.size 1 A bs.length (bs.map (.int .u8))) (hb : ∀ x ∈ bs, 0 ≤ x ∧ x ≤ 255) (hl : bs.length ≤ 9223372036854775807) (hcap : bs.length ≤ c) :
    Calls Tryz.prog 17 #[.slice A bs.length c] w fun e w' => e = .returned (.pointer (some ⟨w.heap.size, 0, none⟩)) ∧ RdS w' w.heap.size w.heap.size 0 ∧ Below w.heap.size w w' ∧ w'.heap.size = w.heap.size + 1 := by
  by_cases h2 : 2000 < bs.length
  · have hT := Reads.sub0 hA 2000 (by omega)
    have hlt : (bs.take 2000).length = 2000 := by simp; omega
    have hbt : ∀ x ∈ bs.take 2000, 0 ≤ x ∧ x ≤ 255 := fun x hx => hb x (List.mem_of_mem_take hx)
    obtain ⟨b, off, rfl, hbB, hc⟩ := hA.2 (by omega)
    generalize bs.take 2000 = bt at *
    have hc2 : (2000 : Int) ≤ (c : Int) := by omega
    have hlI : (2000 : Int) < (bs.length : Int) := by omega
    go_enter Tryz.func17, Tryz.ntmps17
    go_wp2
    go_ret
    refine ⟨rfl, ⟨some ⟨b, off, none⟩, c, 0, bt, ?_, hT.below ((by repeat (first | exact Below.refl _ _ | assumption | refine Below.alloc ?_ (by simp <;> omega) _ | refine Below.setCell ?_ (by simp <;> omega) _ | refine Below.drew ?_))), hbt, by omega, Nat.le_refl _, Nat.le_refl _⟩, (by repeat (first | exact Below.refl _ _ | assumption | refine Below.alloc ?_ (by simp <;> omega) _ | refine Below.setCell ?_ (by simp <;> omega) _ | refine Below.drew ?_)), by simp⟩
    rw [hlt]
    exact heap_alloc_new _ _
  · go_enter Tryz.func17, Tryz.ntmps17
    go_wp2
    go_ret
    refine ⟨rfl, ⟨A, c, 0, bs, heap_alloc_new _ _, hA.below ((by repeat (first | exact Below.refl _ _ | assumption | refine Below.alloc ?_ (by simp <;> omega) _ | refine Below.setCell ?_ (by simp <;> omega) _ | refine Below.drew ?_))), hb, by omega, Nat.le_refl _, Nat.le_refl _⟩, (by repeat (first | exact Below.refl _ _ | assumption | refine Below.alloc ?_ (by simp <;> omega) _ | refine Below.setCell ?_ (by simp <;> omega) _ | refine Below.drew ?_)), by simp⟩
def tblCells : Array Value := #[Value.int .i64 1, .int .i64 1, .int .i64 2, .int .i64 3, .int .i64 4, .int .i64 5, .int .i64 6, .int .i64 7, .int .i64 8, .int .i64 9, .int .i64 9, .int .i64 3]
theorem opTbl_get {v : Nat} (h : (v : Int) < 12) : ∃ o : Int, tblCells[v]? = some (.int .i64 o) ∧ 1 ≤ o ∧ o ≤ 9 := by
  have : v = 0 ∨ v = 1 ∨ v = 2 ∨ v = 3 ∨ v = 4 ∨ v = 5 ∨ v = 6 ∨ v = 7 ∨ v = 8 ∨ v = 9 ∨ v = 10 ∨ v = 11 := by omega
  rcases this with rfl | rfl | rfl | rfl | rfl | rfl | rfl | rfl | rfl | rfl | rfl | rfl <;> exact ⟨_, rfl, by decide, by decide⟩

/-- A region that draws its order, by an invariant of what has been listed. -/
theorem wpAny_inv {P : Program} {md : Region.Mode} {ops : Array Oper} {Q : Exit → Act → World → Prop} (Inv : Nat → Array Bool → Act → World → Prop)
    (hstep : ∀ n listed a w, Inv (n + 1) listed a w → ∀ i ∈ Region.ready md ops listed, ∀ K : Act → World → Prop, (∀ a' w', Inv n (listed.setIfInBounds i true) a' w' → K a' w') → wpOp P ops Q i K a w)
    (hdone : ∀ n listed a w, Inv n listed a w → Region.ready md ops listed = [] → Q .normal a w)
    (hend : ∀ listed a w, Inv 0 listed a w → Region.ready md ops listed = []) :
    ∀ fuel listed a w, Inv fuel listed a w → wpAny P md ops Q fuel listed a w
  | 0, listed, a, w, h => ⟨hend _ _ _ h, hdone _ _ _ _ h (hend _ _ _ h)⟩
  | fuel + 1, listed, a, w, h => ⟨hdone _ _ _ _ h, fun i hi => hstep _ _ _ _ h i hi _ (wpAny_inv Inv hstep hdone hend fuel _)⟩
theorem ready10 {md : Region.Mode} {ops : Array Oper} (dep : Nat → Bool → Bool → Bool → Bool → Bool → Bool → Bool → Bool → Bool → Bool → Bool)
    (hall : ∀ b0 b1 b2 b3 b4 b5 b6 b7 b8 b9 : Bool, (Region.ready md ops #[b0, b1, b2, b3, b4, b5, b6, b7, b8, b9]).all (fun i => dep i b0 b1 b2 b3 b4 b5 b6 b7 b8 b9) = true)
    {b0 b1 b2 b3 b4 b5 b6 b7 b8 b9 : Bool} {i : Nat} (hi : i ∈ Region.ready md ops #[b0, b1, b2, b3, b4, b5, b6, b7, b8, b9]) : dep i b0 b1 b2 b3 b4 b5 b6 b7 b8 b9 = true :=
  List.all_eq_true.1 (hall b0 b1 b2 b3 b4 b5 b6 b7 b8 b9) i hi
def plainDep (i : Nat) (b0 b1 b2 b3 b4 b5 b6 b7 b8 b9 : Bool) : Bool :=
  (i == 0 && !b0) || (i == 1 && !b1) || (i == 2 && !b2 && b1) || (i == 3 && !b3 && b0 && b2) || (i == 4 && !b4 && b3) || (i == 5 && !b5) || (i == 6 && !b6 && b5 && b2) || (i == 7 && !b7 && b4 && b6) || (i == 8 && !b8) || (i == 9 && !b9 && b8 && b7)
def cnt10 (b0 b1 b2 b3 b4 b5 b6 b7 b8 b9 : Bool) : Nat := (!b0).toNat + (!b1).toNat + (!b2).toNat + (!b3).toNat + (!b4).toNat + (!b5).toNat + (!b6).toNat + (!b7).toNat + (!b8).toNat + (!b9).toNat

def plainAct (g : Nat) (y1 : Value) (rb : Nat) (y3 y4 y5 y6 y7 y8 y9 y10 y11 : Value) : Act :=
  { tmps := #[.pointer (some ⟨g, 0, none⟩), y1, .pointer (some ⟨rb, 0, none⟩), y3, y4, y5, y6, y7, y8, y9, y10, y11, undef, undef, undef, undef, undef, undef, undef, undef, undef, undef, undef, undef, undef, undef, undef, undef, undef, undef, undef, undef, undef, undef, undef, undef, undef, undef, undef, undef, undef, undef, undef, undef, undef], defers := [] }

abbrev zeroC : Array Value := #[.int .i64 0, .int .i64 0, .int .i64 0, .int .i64 0]
theorem done10 {md : Region.Mode} {ops : Array Oper} (hall : ∀ b0 b1 b2 b3 b4 b5 b6 b7 b8 b9 : Bool, ((Region.ready md ops #[b0, b1, b2, b3, b4, b5, b6, b7, b8, b9]).isEmpty → (b0 && b1 && b2 && b3 && b4 && b5 && b6 && b7 && b8 && b9)) = true)
    {b0 b1 b2 b3 b4 b5 b6 b7 b8 b9 : Bool} (h : Region.ready md ops #[b0, b1, b2, b3, b4, b5, b6, b7, b8, b9] = []) : (b0 && b1 && b2 && b3 && b4 && b5 && b6 && b7 && b8 && b9) = true := by
  have := hall b0 b1 b2 b3 b4 b5 b6 b7 b8 b9
  rw [h] at this
  simpa using this
theorem cnt_zero {b0 b1 b2 b3 b4 b5 b6 b7 b8 b9 : Bool} (h : 0 = cnt10 b0 b1 b2 b3 b4 b5 b6 b7 b8 b9) : (b0 && b1 && b2 && b3 && b4 && b5 && b6 && b7 && b8 && b9) = true := by
  revert b0 b1 b2 b3 b4 b5 b6 b7 b8 b9
  decide +kernel
structure PF (g rb : Nat) (b0 b1 b2 b3 b4 b5 b6 b7 b8 b9 : Bool) (y3 y4 y5 y6 y7 y8 y9 y10 y11 : Value) (w : World) : Prop where
  zr : w.heap[rb]? = some (.cells zeroC 76 (0, 0))
  s0 : b0 = true → ∃ lit : Nat, y4 = .slice (some ⟨lit, 0, none⟩) 12 12 ∧ w.heap[lit]? = some (.cells tblCells 3 (0, 0)) ∧ lit ≠ g
  s1 : b1 = true → y5 = .pointer (some ⟨g, 0, none⟩)
  s2 : b2 = true → ∃ v : Nat, y6 = .int .i64 v ∧ (v : Int) < 12
  s3 : b3 = true → ∃ lit v : Nat, y7 = .pointer (some ⟨lit, v, none⟩) ∧ (v : Int) < 12 ∧ w.heap[lit]? = some (.cells tblCells 3 (0, 0)) ∧ lit ≠ g
  s4 : b4 = true → ∃ i : Int, y8 = .int .i64 i ∧ 1 ≤ i ∧ i ≤ 9
  s5 : b5 = true → y9 = .pointer (some ⟨g, 0, none⟩)
  s6 : b6 = true → ∃ v : Nat, y10 = .int .i64 v
  s7 : b7 = true → ∃ x : Cd, y11 = x.val ∧ 1 ≤ x.op ∧ x.op ≤ 9
  s8 : b8 = true → ∃ cb : Nat, y3 = .pointer (some ⟨cb, 0, none⟩) ∧ rb < cb ∧ cb ≠ g ∧ (b9 = false → w.heap[cb]? = some (.cells zeroC 76 (0, 0))) ∧ (b9 = true → ∃ x : Cd, w.heap[cb]? = some (.cells #[.int .i64 x.op, .int .i64 x.a, .int .i64 x.b, .int .i64 x.c] 76 (0, 0)) ∧ 1 ≤ x.op ∧ x.op ≤ 9)
  s9 : b9 = true → b8 = true
theorem PF.mono {g rb : Nat} {b0 b1 b2 b3 b4 b5 b6 b7 b8 b9 : Bool} {y3 y4 y5 y6 y7 y8 y9 y10 y11 : Value} {w w' : World} (h : PF g rb b0 b1 b2 b3 b4 b5 b6 b7 b8 b9 y3 y4 y5 y6 y7 y8 y9 y10 y11 w) (hr : rb ≠ g) (hk : ∀ j o, j ≠ g → w.heap[j]? = some o → w'.heap[j]? = some o) : PF g rb b0 b1 b2 b3 b4 b5 b6 b7 b8 b9 y3 y4 y5 y6 y7 y8 y9 y10 y11 w' := by
  refine ⟨hk _ _ hr h.zr, fun e => ?_, h.s1, h.s2, fun e => ?_, h.s4, h.s5, h.s6, h.s7, fun e => ?_, h.s9⟩
  · obtain ⟨lit, h1, h2, h3⟩ := h.s0 e
    exact ⟨lit, h1, hk _ _ h3 h2, h3⟩
  · obtain ⟨lit, v, h1, h2, h3, h4⟩ := h.s3 e
    exact ⟨lit, v, h1, h2, hk _ _ h4 h3, h4⟩
  · obtain ⟨cb, h1, h2, h3, h4, h5⟩ := h.s8 e
    refine ⟨cb, h1, h2, h3, fun e => hk _ _ h3 (h4 e), fun e => ?_⟩
    obtain ⟨x, h6, h7⟩ := h5 e
    exact ⟨x, hk _ _ h3 h6, h7⟩
def plainInv (w0 : World) (B g K rb : Nat) (y1 : Value) (n : Nat) (L : Array Bool) (a : Act) (w : World) : Prop :=
  ∃ (b0 b1 b2 b3 b4 b5 b6 b7 b8 b9 : Bool) (y3 y4 y5 y6 y7 y8 y9 y10 y11 : Value), L = #[b0, b1, b2, b3, b4, b5, b6, b7, b8, b9] ∧ n = cnt10 b0 b1 b2 b3 b4 b5 b6 b7 b8 b9 ∧ a = plainAct g y1 rb y3 y4 y5 y6 y7 y8 y9 y10 y11 ∧ RdS w B g (K + b2.toNat + b6.toNat) ∧ w0.grownBy w (some g) ∧ PF g rb b0 b1 b2 b3 b4 b5 b6 b7 b8 b9 y3 y4 y5 y6 y7 y8 y9 y10 y11 w
set_option maxRecDepth 100000 in
set_option maxHeartbeats 4000000 in
theorem l20Plain_c {w : World} {B g K : Nat} (h : RdS w B g K) (hK : K ≤ 100000000) :
    Calls Tryz.prog 82 #[.pointer (some ⟨g, 0, none⟩)] w fun e w' => ∃ x : Cd, e = .returned x.val ∧ RdS w' B g (K + 8) ∧ w.grownBy w' (some g) := by
  have hg := h.lt
  go_enter Tryz.func82, Tryz.ntmps82
  go_wp2_with fail
  go_upto_region 1 with fail
  go_cut [3] from 4 (fun s3 wx => ∃ (cb : Nat) (x : Cd), s3 = .pointer (some ⟨cb, 0, none⟩) ∧ w.heap.size < cb ∧ wx.heap[cb]? = some (.cells #[.int .i64 x.op, .int .i64 x.a, .int .i64 x.b, .int .i64 x.c] 76 (0, 0)) ∧ (1 ≤ x.op ∧ x.op ≤ 9) ∧ RdS wx B g (K + 2) ∧ w.grownBy wx (some g) ∧ wx.heap[w.heap.size]? = some (.cells zeroC 76 (0, 0)))
  case first =>
    have hrg : w.heap.size ≠ g := by omega
    have h1 := h.alloc (.cells zeroC 76)
    have hG0 : w.grownBy (w.alloc (.cells zeroC 76)) (some g) := World.grownBy_alloc _ _ _
    have hG1 : w.grownBy (w.alloc (.cells zeroC 76)).drew (some g) := ⟨hG0.os, hG0.tape, hG0.output, hG0.size, hG0.block⟩
    have hz1 := heap_alloc_new w (.cells zeroC 76)
    have hszw : g < w.heap.size := hg
    clear h
    have hBg := h1.base
    generalize hrb : w.heap.size = rb at *
    refine wp_region_any (by kernel_rfl) ?_
    refine wpAny_inv (plainInv w B g K rb undef) ?_ ?_ ?_ _ _ _ _ ?_
    · rintro n L a w1 ⟨b0, b1, b2, b3, b4, b5, b6, b7, b8, b9, y3, y4, y5, y6, y7, y8, y9, y10, y11, rfl, hn, rfl, hR, hG, hF⟩ i hi K0 hK0
      have hd := ready10 plainDep (by decide +kernel) hi
      clear hi
      simp only [plainDep, Bool.or_eq_true, Bool.and_eq_true, beq_iff_eq, Bool.not_eq_true'] at hd
      have hlt := hR.lt
      rcases hd with (((((((((hd | hd) | hd) | hd) | hd) | hd) | hd) | hd) | hd) | hd)
      · obtain ⟨rfl, rfl⟩ := hd
        refine wpOp_step rfl (fun K2 hK2 => ?_)
        dsimp only [plainAct]
        go_simp
        have hF2 := hF.mono (w' := w1.alloc (.cells tblCells 3)) hrg (fun j o _ hj => (Ext.alloc w1 _).heap_ hj)
        exact hK2 _ _ (hK0 _ _ ⟨true, b1, b2, b3, b4, b5, b6, b7, b8, b9, y3, _, y5, y6, y7, y8, y9, y10, y11, rfl, by simp [cnt10] at hn ⊢; omega, rfl, hR.alloc _, hG.trans (World.grownBy_alloc _ _ _), ⟨hF2.zr, fun _ => ⟨_, rfl, heap_alloc_new _ _, by omega⟩, hF2.s1, hF2.s2, hF2.s3, hF2.s4, hF2.s5, hF2.s6, hF2.s7, hF2.s8, hF2.s9⟩⟩)
      · obtain ⟨rfl, rfl⟩ := hd
        refine wpOp_step rfl (fun K2 hK2 => ?_)
        dsimp only [plainAct]
        go_simp
        exact hK2 _ _ (hK0 _ _ ⟨b0, true, b2, b3, b4, b5, b6, b7, b8, b9, y3, y4, _, y6, y7, y8, y9, y10, y11, rfl, by simp [cnt10] at hn ⊢; omega, rfl, hR, hG, ⟨hF.zr, hF.s0, fun _ => rfl, hF.s2, hF.s3, hF.s4, hF.s5, hF.s6, hF.s7, hF.s8, hF.s9⟩⟩)
      · obtain ⟨⟨rfl, rfl⟩, rfl⟩ := hd
        obtain rfl := hF.s1 rfl
        refine wpOp_step rfl (fun K2 hK2 => ?_)
        dsimp only [plainAct]
        go_simp
        go_at_call 19
        refine (pick_i hR (by simp only [Bool.toNat_true, Bool.toNat_false]; first | omega | (have := Bool.toNat_le b6; omega)) _ (by decide) (by decide)).mono ?_
        rintro e w2 ⟨v, rfl, hv, hR2, hg2, hs2, -⟩
        have hF2 := hF.mono (w' := w2) hrg (fun j o hj hh => (hg2.block j (Array.getElem?_eq_some_iff.1 hh).1 (fun e => hj (Option.some.inj e))).trans hh)
        exact hK2 _ _ (hK0 _ _ ⟨b0, true, true, b3, b4, b5, b6, b7, b8, b9, y3, y4, _, _, y7, y8, y9, y10, y11, rfl, by simp [cnt10] at hn ⊢; omega, rfl, hR2.more (by simp <;> omega), hG.trans hg2, ⟨hF2.zr, hF2.s0, hF2.s1, fun _ => ⟨v, rfl, hv⟩, hF2.s3, hF2.s4, hF2.s5, hF2.s6, hF2.s7, hF2.s8, hF2.s9⟩⟩)
      · obtain ⟨⟨⟨rfl, rfl⟩, rfl⟩, rfl⟩ := hd
        obtain ⟨lit, rfl, hl1, hl2⟩ := hF.s0 rfl
        obtain ⟨v, rfl, hv⟩ := hF.s2 rfl
        refine wpOp_step rfl (fun K2 hK2 => ?_)
        dsimp only [plainAct]
        go_simp
        exact hK2 _ _ (hK0 _ _ ⟨true, b1, true, true, b4, b5, b6, b7, b8, b9, y3, _, y5, _, _, y8, y9, y10, y11, rfl, by simp [cnt10] at hn ⊢; omega, rfl, hR, hG, ⟨hF.zr, hF.s0, hF.s1, hF.s2, fun _ => ⟨lit, v, rfl, hv, hl1, hl2⟩, hF.s4, hF.s5, hF.s6, hF.s7, hF.s8, hF.s9⟩⟩)
      · obtain ⟨⟨rfl, rfl⟩, rfl⟩ := hd
        obtain ⟨lit, v, rfl, hv, hl1, hl2⟩ := hF.s3 rfl
        obtain ⟨z, hz, hz2⟩ := opTbl_get hv
        have hcz := (cell_of_heap hl1 v).trans hz
        refine wpOp_step rfl (fun K2 hK2 => ?_)
        dsimp only [plainAct]
        go_simp
        exact hK2 _ _ (hK0 _ _ ⟨b0, b1, b2, true, true, b5, b6, b7, b8, b9, y3, y4, y5, y6, _, _, y9, y10, y11, rfl, by simp [cnt10] at hn ⊢; omega, rfl, hR, hG, ⟨hF.zr, hF.s0, hF.s1, hF.s2, hF.s3, fun _ => ⟨z, rfl, hz2⟩, hF.s5, hF.s6, hF.s7, hF.s8, hF.s9⟩⟩)
      · obtain ⟨rfl, rfl⟩ := hd
        refine wpOp_step rfl (fun K2 hK2 => ?_)
        dsimp only [plainAct]
        go_simp
        exact hK2 _ _ (hK0 _ _ ⟨b0, b1, b2, b3, b4, true, b6, b7, b8, b9, y3, y4, y5, y6, y7, y8, _, y10, y11, rfl, by simp [cnt10] at hn ⊢; omega, rfl, hR, hG, ⟨hF.zr, hF.s0, hF.s1, hF.s2, hF.s3, hF.s4, fun _ => rfl, hF.s6, hF.s7, hF.s8, hF.s9⟩⟩)
      · obtain ⟨⟨⟨rfl, rfl⟩, rfl⟩, rfl⟩ := hd
        obtain rfl := hF.s5 rfl
        refine wpOp_step rfl (fun K2 hK2 => ?_)
        dsimp only [plainAct]
        go_simp
        go_at_call 19
        refine (pick_i hR (by simp only [Bool.toNat_true, Bool.toNat_false]; first | omega | (have := Bool.toNat_le b6; omega)) _ (by decide) (by decide)).mono ?_
        rintro e w2 ⟨v, rfl, hv, hR2, hg2, hs2, -⟩
        have hF2 := hF.mono (w' := w2) hrg (fun j o hj hh => (hg2.block j (Array.getElem?_eq_some_iff.1 hh).1 (fun e => hj (Option.some.inj e))).trans hh)
        exact hK2 _ _ (hK0 _ _ ⟨b0, b1, true, b3, b4, true, true, b7, b8, b9, y3, y4, y5, y6, y7, y8, _, _, y11, rfl, by simp [cnt10] at hn ⊢; omega, rfl, hR2.more (by simp <;> omega), hG.trans hg2, ⟨hF2.zr, hF2.s0, hF2.s1, hF2.s2, hF2.s3, hF2.s4, hF2.s5, fun _ => ⟨v, rfl⟩, hF2.s7, hF2.s8, hF2.s9⟩⟩)
      · obtain ⟨⟨⟨rfl, rfl⟩, rfl⟩, rfl⟩ := hd
        obtain ⟨z, rfl, hz⟩ := hF.s4 rfl
        obtain ⟨v, rfl⟩ := hF.s6 rfl
        refine wpOp_step rfl (fun K2 hK2 => ?_)
        dsimp only [plainAct]
        go_simp
        exact hK2 _ _ (hK0 _ _ ⟨b0, b1, b2, b3, true, b5, true, true, b8, b9, y3, y4, y5, y6, y7, _, y9, _, _, rfl, by simp [cnt10] at hn ⊢; omega, rfl, hR, hG, ⟨hF.zr, hF.s0, hF.s1, hF.s2, hF.s3, hF.s4, hF.s5, hF.s6, fun _ => ⟨⟨z, v, 0, 0⟩, rfl, hz⟩, hF.s8, hF.s9⟩⟩)
      · obtain ⟨rfl, rfl⟩ := hd
        refine wpOp_step rfl (fun K2 hK2 => ?_)
        dsimp only [plainAct]
        go_simp
        have hF2 := hF.mono (w' := w1.alloc (.cells zeroC 76)) hrg (fun j o _ hj => (Ext.alloc w1 _).heap_ hj)
        have hlr := lt_of_block hF.zr
        exact hK2 _ _ (hK0 _ _ ⟨b0, b1, b2, b3, b4, b5, b6, b7, true, b9, _, y4, y5, y6, y7, y8, y9, y10, y11, rfl, by simp [cnt10] at hn ⊢; omega, rfl, hR.alloc _, hG.trans (World.grownBy_alloc _ _ _), ⟨hF2.zr, hF2.s0, hF2.s1, hF2.s2, hF2.s3, hF2.s4, hF2.s5, hF2.s6, hF2.s7, fun _ => ⟨_, rfl, hlr, by omega, fun _ => heap_alloc_new _ _, fun e => absurd (hF.s9 e) (by decide)⟩, fun _ => rfl⟩⟩)
      · obtain ⟨⟨⟨rfl, rfl⟩, rfl⟩, rfl⟩ := hd
        obtain ⟨cb, rfl, hc1, hc2, hc3, -⟩ := hF.s8 rfl
        obtain ⟨x, rfl, hx⟩ := hF.s7 rfl
        replace hc3 := hc3 rfl
        refine wpOp_step rfl (fun K2 hK2 => ?_)
        dsimp only [plainAct]
        refine (if_pos ?hw).mpr ?_
        case hw => rfl
        refine wp_store_row _ _ _ rfl cb rfl _ _ _ rfl hc3 (by kernel_rfl) rfl (by simp [Value.oneCell']) ?_
        have hrc : rb ≠ cb := by omega
        have hR2 := hR.off (grown_setRow (w := w1) cb #[.int .i64 x.op, .int .i64 x.a, .int .i64 x.b, .int .i64 x.c]) (fun k e => by cases e; exact ⟨by omega, hc2⟩)
        have hG2 := grown_then hG (grown_setRow (w := w1) cb #[.int .i64 x.op, .int .i64 x.a, .int .i64 x.b, .int .i64 x.c]) (by omega)
        exact hK2 _ _ (hK0 _ _ ⟨b0, b1, b2, b3, b4, b5, b6, true, true, true, _, y4, y5, y6, y7, y8, y9, y10, _, rfl, by simp [cnt10] at hn ⊢; omega, rfl, hR2, hG2, ⟨(heap_setRow_other hrc).trans hF.zr, fun e => (by obtain ⟨lit, h1, h2, h3⟩ := hF.s0 e; exact ⟨lit, h1, (heap_setRow_other (type_ne h2 hc3 (by decide))).trans h2, h3⟩), hF.s1, hF.s2, fun e => (by obtain ⟨lit, v, h1, h2, h3, h4⟩ := hF.s3 e; exact ⟨lit, v, h1, h2, (heap_setRow_other (type_ne h3 hc3 (by decide))).trans h3, h4⟩), hF.s4, hF.s5, hF.s6, hF.s7, fun _ => ⟨cb, rfl, hc1, hc2, fun e => (by cases e), fun _ => ⟨x, heap_setRow_same hc3, hx⟩⟩, fun _ => rfl⟩⟩)
    · rintro n L a w1 ⟨b0, b1, b2, b3, b4, b5, b6, b7, b8, b9, y3, y4, y5, y6, y7, y8, y9, y10, y11, rfl, hn, rfl, hR, hG, hF⟩ hr
      have hd := done10 (by decide +kernel) hr
      simp only [Bool.and_eq_true] at hd
      obtain ⟨⟨⟨⟨⟨⟨⟨⟨⟨rfl, rfl⟩, rfl⟩, rfl⟩, rfl⟩, rfl⟩, rfl⟩, rfl⟩, rfl⟩, rfl⟩ := hd
      obtain ⟨cb, rfl, hc1, hc2, -, hc3⟩ := hF.s8 rfl
      obtain ⟨x, hx1, hx2⟩ := hc3 rfl
      dsimp only [plainAct]
      go_wp2_with fail
      go_meet
      exact ⟨cb, x, rfl, hc1, hx1, hx2, hR.more (by simp), hG, hF.zr⟩
    · rintro L a w1 ⟨b0, b1, b2, b3, b4, b5, b6, b7, b8, b9, y3, y4, y5, y6, y7, y8, y9, y10, y11, rfl, hn, rfl, hR, hG, hF⟩
      have hd := cnt_zero hn
      simp only [Bool.and_eq_true] at hd
      obtain ⟨⟨⟨⟨⟨⟨⟨⟨⟨rfl, rfl⟩, rfl⟩, rfl⟩, rfl⟩, rfl⟩, rfl⟩, rfl⟩, rfl⟩, rfl⟩ := hd
      first | rfl | decide +kernel
    · exact ⟨false, false, false, false, false, false, false, false, false, false, undef, undef, undef, undef, undef, undef, undef, undef, undef, rfl, rfl, rfl, h1, hG1, hz1, by simp, by simp, by simp, by simp, by simp, by simp, by simp, by simp, by simp, by simp⟩
  case rest =>
    obtain ⟨cb, ⟨op, xa, xb, xc⟩, rfl, hcb, hx, ho, hR, hG, hz⟩ := hcut
    simp only at hx ho
    have hgc : cb ≠ g := by omega
    have hgz : w.heap.size ≠ g := by omega
    have hBg := hR.base
    have hops : op = 1 ∨ op = 2 ∨ op = 3 ∨ op = 4 ∨ op = 5 ∨ op = 6 ∨ op = 7 ∨ op = 8 ∨ op = 9 := by omega
    clear h ho
    have c0 := cell_of_heap hx 0
    rcases hops with rfl | rfl | rfl | rfl | rfl | rfl | rfl | rfl | rfl
    · skip
      go_wp2_with fail
      refine (pick_i hR (by omega) _ (by decide) (by decide)).mono ?_
      rintro e w2 ⟨v2, rfl, hv2, hR2, hgv2, hsv2, -⟩
      have hx2 := (hgv2.block cb (lt_of_block hx) (fun e => hgc (Option.some.inj e))).trans hx
      have hz2 := (hgv2.block w.heap.size (lt_of_block hz) (fun e => hgz (Option.some.inj e))).trans hz
      have hG2 := hG.trans hgv2
      go_wp2_with fail
      refine (pick_i hR2 (by omega) _ (by decide) (by decide)).mono ?_
      rintro e w3 ⟨v3, rfl, hv3, hR3, hgv3, hsv3, -⟩
      have hx3 := (hgv3.block cb (lt_of_block hx2) (fun e => hgc (Option.some.inj e))).trans hx2
      have hz3 := (hgv3.block w.heap.size (lt_of_block hz2) (fun e => hgz (Option.some.inj e))).trans hz2
      have hG3 := hG2.trans hgv3
      have hx4 := (Ext.alloc w3 (.cells #[.int .i64 v2, .int .i64 v3] 3)).heap_ hx3
      have hz4 := (Ext.alloc w3 (.cells #[.int .i64 v2, .int .i64 v3] 3)).heap_ hz3
      have hR4 := hR3.alloc (.cells #[.int .i64 v2, .int .i64 v3] 3)
      have hG4 := hG3.trans (World.grownBy_alloc w3 (.cells #[.int .i64 v2, .int .i64 v3] 3) (some g))
      have hl4 := heap_alloc_new w3 (.cells #[.int .i64 v2, .int .i64 v3] 3)
      go_wp2_with fail
      have hlsz : w3.heap.size = wc.heap.size := hsv3.trans hsv2
      rw [hlsz] at hl4
      generalize w3.alloc (.cells #[.int .i64 v2, .int .i64 v3] 3) = w4 at *
      refine (pick_i hR4 (by omega) _ (by decide) (by decide)).mono ?_
      rintro e w5 ⟨v5, rfl, hv5, hR5, hg5, hs5, -⟩
      have hlg : wc.heap.size ≠ g := by have := hR.lt; omega
      have hx5 := (hg5.block cb (lt_of_block hx4) (fun e => hgc (Option.some.inj e))).trans hx4
      have hz5 := (hg5.block w.heap.size (lt_of_block hz4) (fun e => hgz (Option.some.inj e))).trans hz4
      have hl5 := (hg5.block wc.heap.size (lt_of_block hl4) (fun e => hlg (Option.some.inj e))).trans hl4
      have hG5 := hG4.trans hg5
      have h01 : v5 = 0 ∨ v5 = 1 := by omega
      obtain ⟨vv, hvv⟩ : ∃ vv : Nat, w5.cell? ⟨wc.heap.size, v5, none⟩ = some (.int .i64 vv) := by rcases h01 with rfl | rfl; exact ⟨v2, cell_of_heap hl5 0⟩; exact ⟨v3, cell_of_heap hl5 1⟩
      clear h01
      have c2hx5 := cell_of_heap hx5 2
      have f2hx5 := free_of_heap hx5 2
      have hx6 : (w5.setCell ⟨cb, 2, none⟩ (.int .i64 vv)).heap[cb]? = some (.cells #[.int .i64 1, .int .i64 xa, .int .i64 vv, .int .i64 xc] 76 (0, 0)) := heap_set_same hx5 2 _
      have hz6 := (heap_set_other (w := w5) (g := cb) (b := w.heap.size) (by omega) 2 (.int .i64 vv)).trans hz5
      have hR6 : RdS (w5.setCell ⟨cb, 2, none⟩ (.int .i64 vv)) B g _ := hR5.off (grown_cell1 w5 cb 2 _) (fun k e => by cases e; exact ⟨by omega, hgc⟩)
      have hG6 := grown_then hG5 (grown_cell1 w5 cb 2 (.int .i64 vv)) (by omega)
      go_upto_region 15 with fail
      refine wp_region_lit (fin_row _ _ _ _ rfl rfl rfl rfl _ _ _ _ _ _ hx6 hz6 rfl rfl rfl _ (Tryz.underlying76) rfl (by kernel_rfl) rfl (by simp [Value.oneCell']) ?_)
      have hz9 := heap_setRow_same (cs := #[.int .i64 1, .int .i64 xa, .int .i64 vv, .int .i64 xc]) hz6
      have hR9 := hR6.off (grown_setRow w.heap.size #[.int .i64 1, .int .i64 xa, .int .i64 vv, .int .i64 xc]) (fun k e => by cases e; exact ⟨by omega, hgz⟩)
      have hG9 := grown_then hG6 (grown_setRow w.heap.size #[.int .i64 1, .int .i64 xa, .int .i64 vv, .int .i64 xc]) (Nat.le_refl _)
      go_wp2_with fail
      refine ret_cell Tryz.results82 _ rfl _ _ _ hz9 _ (Tryz.underlying76) rfl (by kernel_rfl) rfl ?_
      exact ⟨⟨1, xa, vv, xc⟩, rfl, hR9.more (by omega), hG9⟩
    · skip
      go_upto_region 15 with fail
      refine wp_region_lit (fin_row _ _ _ _ rfl rfl rfl rfl _ _ _ _ _ _ hx hz rfl rfl rfl _ (Tryz.underlying76) rfl (by kernel_rfl) rfl (by simp [Value.oneCell']) ?_)
      have hz9 := heap_setRow_same (cs := #[.int .i64 2, .int .i64 xa, .int .i64 xb, .int .i64 xc]) hz
      have hR9 := hR.off (grown_setRow w.heap.size #[.int .i64 2, .int .i64 xa, .int .i64 xb, .int .i64 xc]) (fun k e => by cases e; exact ⟨by omega, hgz⟩)
      have hG9 := grown_then hG (grown_setRow w.heap.size #[.int .i64 2, .int .i64 xa, .int .i64 xb, .int .i64 xc]) (Nat.le_refl _)
      go_wp2_with fail
      refine ret_cell Tryz.results82 _ rfl _ _ _ hz9 _ (Tryz.underlying76) rfl (by kernel_rfl) rfl ?_
      exact ⟨⟨2, xa, xb, xc⟩, rfl, hR9.more (by omega), hG9⟩
    · skip
      go_wp2_with fail
      refine (pick_i hR (by omega) _ (by decide) (by decide)).mono ?_
      rintro e w2 ⟨v2, rfl, hv2, hR2, hgv2, hsv2, -⟩
      have hx2 := (hgv2.block cb (lt_of_block hx) (fun e => hgc (Option.some.inj e))).trans hx
      have hz2 := (hgv2.block w.heap.size (lt_of_block hz) (fun e => hgz (Option.some.inj e))).trans hz
      have hG2 := hG.trans hgv2
      have c2hx2 := cell_of_heap hx2 2
      have f2hx2 := free_of_heap hx2 2
      have hx3 : (w2.setCell ⟨cb, 2, none⟩ (.int .i64 v2)).heap[cb]? = some (.cells #[.int .i64 3, .int .i64 xa, .int .i64 v2, .int .i64 xc] 76 (0, 0)) := heap_set_same hx2 2 _
      have hz3 := (heap_set_other (w := w2) (g := cb) (b := w.heap.size) (by omega) 2 (.int .i64 v2)).trans hz2
      have hR3 : RdS (w2.setCell ⟨cb, 2, none⟩ (.int .i64 v2)) B g _ := hR2.off (grown_cell1 w2 cb 2 _) (fun k e => by cases e; exact ⟨by omega, hgc⟩)
      have hG3 := grown_then hG2 (grown_cell1 w2 cb 2 (.int .i64 v2)) (by omega)
      go_upto_region 15 with fail
      refine wp_region_lit (fin_row _ _ _ _ rfl rfl rfl rfl _ _ _ _ _ _ hx3 hz3 rfl rfl rfl _ (Tryz.underlying76) rfl (by kernel_rfl) rfl (by simp [Value.oneCell']) ?_)
      have hz9 := heap_setRow_same (cs := #[.int .i64 3, .int .i64 xa, .int .i64 v2, .int .i64 xc]) hz3
      have hR9 := hR3.off (grown_setRow w.heap.size #[.int .i64 3, .int .i64 xa, .int .i64 v2, .int .i64 xc]) (fun k e => by cases e; exact ⟨by omega, hgz⟩)
      have hG9 := grown_then hG3 (grown_setRow w.heap.size #[.int .i64 3, .int .i64 xa, .int .i64 v2, .int .i64 xc]) (Nat.le_refl _)
      go_wp2_with fail
      refine ret_cell Tryz.results82 _ rfl _ _ _ hz9 _ (Tryz.underlying76) rfl (by kernel_rfl) rfl ?_
      exact ⟨⟨3, xa, v2, xc⟩, rfl, hR9.more (by omega), hG9⟩
    · skip
      go_wp2_with fail
      refine (pick_i hR (by omega) _ (by decide) (by decide)).mono ?_
      rintro e w2 ⟨v2, rfl, hv2, hR2, hgv2, hsv2, -⟩
      have hx2 := (hgv2.block cb (lt_of_block hx) (fun e => hgc (Option.some.inj e))).trans hx
      have hz2 := (hgv2.block w.heap.size (lt_of_block hz) (fun e => hgz (Option.some.inj e))).trans hz
      have hG2 := hG.trans hgv2
      have c2hx2 := cell_of_heap hx2 2
      have f2hx2 := free_of_heap hx2 2
      have hx3 : (w2.setCell ⟨cb, 2, none⟩ (.int .i64 v2)).heap[cb]? = some (.cells #[.int .i64 4, .int .i64 xa, .int .i64 v2, .int .i64 xc] 76 (0, 0)) := heap_set_same hx2 2 _
      have hz3 := (heap_set_other (w := w2) (g := cb) (b := w.heap.size) (by omega) 2 (.int .i64 v2)).trans hz2
      have hR3 : RdS (w2.setCell ⟨cb, 2, none⟩ (.int .i64 v2)) B g _ := hR2.off (grown_cell1 w2 cb 2 _) (fun k e => by cases e; exact ⟨by omega, hgc⟩)
      have hG3 := grown_then hG2 (grown_cell1 w2 cb 2 (.int .i64 v2)) (by omega)
      go_upto_region 15 with fail
      refine wp_region_lit (fin_row _ _ _ _ rfl rfl rfl rfl _ _ _ _ _ _ hx3 hz3 rfl rfl rfl _ (Tryz.underlying76) rfl (by kernel_rfl) rfl (by simp [Value.oneCell']) ?_)
      have hz9 := heap_setRow_same (cs := #[.int .i64 4, .int .i64 xa, .int .i64 v2, .int .i64 xc]) hz3
      have hR9 := hR3.off (grown_setRow w.heap.size #[.int .i64 4, .int .i64 xa, .int .i64 v2, .int .i64 xc]) (fun k e => by cases e; exact ⟨by omega, hgz⟩)
      have hG9 := grown_then hG3 (grown_setRow w.heap.size #[.int .i64 4, .int .i64 xa, .int .i64 v2, .int .i64 xc]) (Nat.le_refl _)
      go_wp2_with fail
      refine ret_cell Tryz.results82 _ rfl _ _ _ hz9 _ (Tryz.underlying76) rfl (by kernel_rfl) rfl ?_
      exact ⟨⟨4, xa, v2, xc⟩, rfl, hR9.more (by omega), hG9⟩
    · skip
      go_wp2_with fail
      refine (pick_i hR (by omega) _ (by decide) (by decide)).mono ?_
      rintro e w2 ⟨v2, rfl, hv2, hR2, hgv2, hsv2, -⟩
      have hx2 := (hgv2.block cb (lt_of_block hx) (fun e => hgc (Option.some.inj e))).trans hx
      have hz2 := (hgv2.block w.heap.size (lt_of_block hz) (fun e => hgz (Option.some.inj e))).trans hz
      have hG2 := hG.trans hgv2
      have c2hx2 := cell_of_heap hx2 2
      have f2hx2 := free_of_heap hx2 2
      have hx3 : (w2.setCell ⟨cb, 2, none⟩ (.int .i64 v2)).heap[cb]? = some (.cells #[.int .i64 5, .int .i64 xa, .int .i64 v2, .int .i64 xc] 76 (0, 0)) := heap_set_same hx2 2 _
      have hz3 := (heap_set_other (w := w2) (g := cb) (b := w.heap.size) (by omega) 2 (.int .i64 v2)).trans hz2
      have hR3 : RdS (w2.setCell ⟨cb, 2, none⟩ (.int .i64 v2)) B g _ := hR2.off (grown_cell1 w2 cb 2 _) (fun k e => by cases e; exact ⟨by omega, hgc⟩)
      have hG3 := grown_then hG2 (grown_cell1 w2 cb 2 (.int .i64 v2)) (by omega)
      go_upto_region 15 with fail
      refine wp_region_lit (fin_row _ _ _ _ rfl rfl rfl rfl _ _ _ _ _ _ hx3 hz3 rfl rfl rfl _ (Tryz.underlying76) rfl (by kernel_rfl) rfl (by simp [Value.oneCell']) ?_)
      have hz9 := heap_setRow_same (cs := #[.int .i64 5, .int .i64 xa, .int .i64 v2, .int .i64 xc]) hz3
      have hR9 := hR3.off (grown_setRow w.heap.size #[.int .i64 5, .int .i64 xa, .int .i64 v2, .int .i64 xc]) (fun k e => by cases e; exact ⟨by omega, hgz⟩)
      have hG9 := grown_then hG3 (grown_setRow w.heap.size #[.int .i64 5, .int .i64 xa, .int .i64 v2, .int .i64 xc]) (Nat.le_refl _)
      go_wp2_with fail
      refine ret_cell Tryz.results82 _ rfl _ _ _ hz9 _ (Tryz.underlying76) rfl (by kernel_rfl) rfl ?_
      exact ⟨⟨5, xa, v2, xc⟩, rfl, hR9.more (by omega), hG9⟩
    · skip
      go_wp2_with fail
      refine (pick_i hR (by omega) _ (by decide) (by decide)).mono ?_
      rintro e w2 ⟨v2, rfl, hv2, hR2, hgv2, hsv2, -⟩
      have hx2 := (hgv2.block cb (lt_of_block hx) (fun e => hgc (Option.some.inj e))).trans hx
      have hz2 := (hgv2.block w.heap.size (lt_of_block hz) (fun e => hgz (Option.some.inj e))).trans hz
      have hG2 := hG.trans hgv2
      have c2hx2 := cell_of_heap hx2 2
      have f2hx2 := free_of_heap hx2 2
      have hx3 : (w2.setCell ⟨cb, 2, none⟩ (.int .i64 v2)).heap[cb]? = some (.cells #[.int .i64 6, .int .i64 xa, .int .i64 v2, .int .i64 xc] 76 (0, 0)) := heap_set_same hx2 2 _
      have hz3 := (heap_set_other (w := w2) (g := cb) (b := w.heap.size) (by omega) 2 (.int .i64 v2)).trans hz2
      have hR3 : RdS (w2.setCell ⟨cb, 2, none⟩ (.int .i64 v2)) B g _ := hR2.off (grown_cell1 w2 cb 2 _) (fun k e => by cases e; exact ⟨by omega, hgc⟩)
      have hG3 := grown_then hG2 (grown_cell1 w2 cb 2 (.int .i64 v2)) (by omega)
      have hsz3 := size_set w2 ⟨cb, 2, none⟩ (.int .i64 v2)
      go_wp2_with fail
      generalize w2.setCell ⟨cb, 2, none⟩ (.int .i64 v2) = w3 at *
      refine (pick_i hR3 (by omega) _ (by decide) (by decide)).mono ?_
      rintro e w4 ⟨v4, rfl, hv4, hR4, hg4, hs4, -⟩
      have hx4 := (hg4.block cb (lt_of_block hx3) (fun e => hgc (Option.some.inj e))).trans hx3
      have hz4 := (hg4.block w.heap.size (lt_of_block hz3) (fun e => hgz (Option.some.inj e))).trans hz3
      have hG4 := hG3.trans hg4
      have c3hx4 := cell_of_heap hx4 3
      have f3hx4 := free_of_heap hx4 3
      have hx5 : (w4.setCell ⟨cb, 3, none⟩ (.int .i64 v4)).heap[cb]? = some (.cells #[.int .i64 6, .int .i64 xa, .int .i64 v2, .int .i64 v4] 76 (0, 0)) := heap_set_same hx4 3 _
      have hz5 := (heap_set_other (w := w4) (g := cb) (b := w.heap.size) (by omega) 3 (.int .i64 v4)).trans hz4
      have hR5 : RdS (w4.setCell ⟨cb, 3, none⟩ (.int .i64 v4)) B g _ := hR4.off (grown_cell1 w4 cb 3 _) (fun k e => by cases e; exact ⟨by omega, hgc⟩)
      have hG5 := grown_then hG4 (grown_cell1 w4 cb 3 (.int .i64 v4)) (by omega)
      go_upto_region 15 with fail
      refine wp_region_lit (fin_row _ _ _ _ rfl rfl rfl rfl _ _ _ _ _ _ hx5 hz5 rfl rfl rfl _ (Tryz.underlying76) rfl (by kernel_rfl) rfl (by simp [Value.oneCell']) ?_)
      have hz9 := heap_setRow_same (cs := #[.int .i64 6, .int .i64 xa, .int .i64 v2, .int .i64 v4]) hz5
      have hR9 := hR5.off (grown_setRow w.heap.size #[.int .i64 6, .int .i64 xa, .int .i64 v2, .int .i64 v4]) (fun k e => by cases e; exact ⟨by omega, hgz⟩)
      have hG9 := grown_then hG5 (grown_setRow w.heap.size #[.int .i64 6, .int .i64 xa, .int .i64 v2, .int .i64 v4]) (Nat.le_refl _)
      go_wp2_with fail
      refine ret_cell Tryz.results82 _ rfl _ _ _ hz9 _ (Tryz.underlying76) rfl (by kernel_rfl) rfl ?_
      exact ⟨⟨6, xa, v2, v4⟩, rfl, hR9.more (by omega), hG9⟩
    · skip
      go_wp2_with fail
      refine (pick_i hR (by omega) _ (by decide) (by decide)).mono ?_
      rintro e w2 ⟨v2, rfl, hv2, hR2, hgv2, hsv2, -⟩
      have hx2 := (hgv2.block cb (lt_of_block hx) (fun e => hgc (Option.some.inj e))).trans hx
      have hz2 := (hgv2.block w.heap.size (lt_of_block hz) (fun e => hgz (Option.some.inj e))).trans hz
      have hG2 := hG.trans hgv2
      have c2hx2 := cell_of_heap hx2 2
      have f2hx2 := free_of_heap hx2 2
      have hx3 : (w2.setCell ⟨cb, 2, none⟩ (.int .i64 v2)).heap[cb]? = some (.cells #[.int .i64 7, .int .i64 xa, .int .i64 v2, .int .i64 xc] 76 (0, 0)) := heap_set_same hx2 2 _
      have hz3 := (heap_set_other (w := w2) (g := cb) (b := w.heap.size) (by omega) 2 (.int .i64 v2)).trans hz2
      have hR3 : RdS (w2.setCell ⟨cb, 2, none⟩ (.int .i64 v2)) B g _ := hR2.off (grown_cell1 w2 cb 2 _) (fun k e => by cases e; exact ⟨by omega, hgc⟩)
      have hG3 := grown_then hG2 (grown_cell1 w2 cb 2 (.int .i64 v2)) (by omega)
      have hsz3 := size_set w2 ⟨cb, 2, none⟩ (.int .i64 v2)
      go_wp2_with fail
      generalize w2.setCell ⟨cb, 2, none⟩ (.int .i64 v2) = w3 at *
      refine (pick_i hR3 (by omega) _ (by decide) (by decide)).mono ?_
      rintro e w4 ⟨v4, rfl, hv4, hR4, hg4, hs4, -⟩
      have hx4 := (hg4.block cb (lt_of_block hx3) (fun e => hgc (Option.some.inj e))).trans hx3
      have hz4 := (hg4.block w.heap.size (lt_of_block hz3) (fun e => hgz (Option.some.inj e))).trans hz3
      have hG4 := hG3.trans hg4
      have c3hx4 := cell_of_heap hx4 3
      have f3hx4 := free_of_heap hx4 3
      have hx5 : (w4.setCell ⟨cb, 3, none⟩ (.int .i64 v4)).heap[cb]? = some (.cells #[.int .i64 7, .int .i64 xa, .int .i64 v2, .int .i64 v4] 76 (0, 0)) := heap_set_same hx4 3 _
      have hz5 := (heap_set_other (w := w4) (g := cb) (b := w.heap.size) (by omega) 3 (.int .i64 v4)).trans hz4
      have hR5 : RdS (w4.setCell ⟨cb, 3, none⟩ (.int .i64 v4)) B g _ := hR4.off (grown_cell1 w4 cb 3 _) (fun k e => by cases e; exact ⟨by omega, hgc⟩)
      have hG5 := grown_then hG4 (grown_cell1 w4 cb 3 (.int .i64 v4)) (by omega)
      go_upto_region 15 with fail
      refine wp_region_lit (fin_row _ _ _ _ rfl rfl rfl rfl _ _ _ _ _ _ hx5 hz5 rfl rfl rfl _ (Tryz.underlying76) rfl (by kernel_rfl) rfl (by simp [Value.oneCell']) ?_)
      have hz9 := heap_setRow_same (cs := #[.int .i64 7, .int .i64 xa, .int .i64 v2, .int .i64 v4]) hz5
      have hR9 := hR5.off (grown_setRow w.heap.size #[.int .i64 7, .int .i64 xa, .int .i64 v2, .int .i64 v4]) (fun k e => by cases e; exact ⟨by omega, hgz⟩)
      have hG9 := grown_then hG5 (grown_setRow w.heap.size #[.int .i64 7, .int .i64 xa, .int .i64 v2, .int .i64 v4]) (Nat.le_refl _)
      go_wp2_with fail
      refine ret_cell Tryz.results82 _ rfl _ _ _ hz9 _ (Tryz.underlying76) rfl (by kernel_rfl) rfl ?_
      exact ⟨⟨7, xa, v2, v4⟩, rfl, hR9.more (by omega), hG9⟩
    · skip
      go_wp2_with fail
      refine (pick_i hR (by omega) _ (by decide) (by decide)).mono ?_
      rintro e w2 ⟨v2, rfl, hv2, hR2, hgv2, hsv2, -⟩
      have hx2 := (hgv2.block cb (lt_of_block hx) (fun e => hgc (Option.some.inj e))).trans hx
      have hz2 := (hgv2.block w.heap.size (lt_of_block hz) (fun e => hgz (Option.some.inj e))).trans hz
      have hG2 := hG.trans hgv2
      have c2hx2 := cell_of_heap hx2 2
      have f2hx2 := free_of_heap hx2 2
      have hx3 : (w2.setCell ⟨cb, 2, none⟩ (.int .i64 v2)).heap[cb]? = some (.cells #[.int .i64 8, .int .i64 xa, .int .i64 v2, .int .i64 xc] 76 (0, 0)) := heap_set_same hx2 2 _
      have hz3 := (heap_set_other (w := w2) (g := cb) (b := w.heap.size) (by omega) 2 (.int .i64 v2)).trans hz2
      have hR3 : RdS (w2.setCell ⟨cb, 2, none⟩ (.int .i64 v2)) B g _ := hR2.off (grown_cell1 w2 cb 2 _) (fun k e => by cases e; exact ⟨by omega, hgc⟩)
      have hG3 := grown_then hG2 (grown_cell1 w2 cb 2 (.int .i64 v2)) (by omega)
      go_upto_region 15 with fail
      refine wp_region_lit (fin_row _ _ _ _ rfl rfl rfl rfl _ _ _ _ _ _ hx3 hz3 rfl rfl rfl _ (Tryz.underlying76) rfl (by kernel_rfl) rfl (by simp [Value.oneCell']) ?_)
      have hz9 := heap_setRow_same (cs := #[.int .i64 8, .int .i64 xa, .int .i64 v2, .int .i64 xc]) hz3
      have hR9 := hR3.off (grown_setRow w.heap.size #[.int .i64 8, .int .i64 xa, .int .i64 v2, .int .i64 xc]) (fun k e => by cases e; exact ⟨by omega, hgz⟩)
      have hG9 := grown_then hG3 (grown_setRow w.heap.size #[.int .i64 8, .int .i64 xa, .int .i64 v2, .int .i64 xc]) (Nat.le_refl _)
      go_wp2_with fail
      refine ret_cell Tryz.results82 _ rfl _ _ _ hz9 _ (Tryz.underlying76) rfl (by kernel_rfl) rfl ?_
      exact ⟨⟨8, xa, v2, xc⟩, rfl, hR9.more (by omega), hG9⟩
    · skip
      go_wp2_with fail
      refine (pick_i hR (by omega) _ (by decide) (by decide)).mono ?_
      rintro e w2 ⟨v2, rfl, hv2, hR2, hgv2, hsv2, -⟩
      have hx2 := (hgv2.block cb (lt_of_block hx) (fun e => hgc (Option.some.inj e))).trans hx
      have hz2 := (hgv2.block w.heap.size (lt_of_block hz) (fun e => hgz (Option.some.inj e))).trans hz
      have hG2 := hG.trans hgv2
      have c2hx2 := cell_of_heap hx2 2
      have f2hx2 := free_of_heap hx2 2
      have hx3 : (w2.setCell ⟨cb, 2, none⟩ (.int .i64 v2)).heap[cb]? = some (.cells #[.int .i64 9, .int .i64 xa, .int .i64 v2, .int .i64 xc] 76 (0, 0)) := heap_set_same hx2 2 _
      have hz3 := (heap_set_other (w := w2) (g := cb) (b := w.heap.size) (by omega) 2 (.int .i64 v2)).trans hz2
      have hR3 : RdS (w2.setCell ⟨cb, 2, none⟩ (.int .i64 v2)) B g _ := hR2.off (grown_cell1 w2 cb 2 _) (fun k e => by cases e; exact ⟨by omega, hgc⟩)
      have hG3 := grown_then hG2 (grown_cell1 w2 cb 2 (.int .i64 v2)) (by omega)
      go_upto_region 15 with fail
      refine wp_region_lit (fin_row _ _ _ _ rfl rfl rfl rfl _ _ _ _ _ _ hx3 hz3 rfl rfl rfl _ (Tryz.underlying76) rfl (by kernel_rfl) rfl (by simp [Value.oneCell']) ?_)
      have hz9 := heap_setRow_same (cs := #[.int .i64 9, .int .i64 xa, .int .i64 v2, .int .i64 xc]) hz3
      have hR9 := hR3.off (grown_setRow w.heap.size #[.int .i64 9, .int .i64 xa, .int .i64 v2, .int .i64 xc]) (fun k e => by cases e; exact ⟨by omega, hgz⟩)
      have hG9 := grown_then hG3 (grown_setRow w.heap.size #[.int .i64 9, .int .i64 xa, .int .i64 v2, .int .i64 xc]) (Nat.le_refl _)
      go_wp2_with fail
      refine ret_cell Tryz.results82 _ rfl _ _ _ hz9 _ (Tryz.underlying76) rfl (by kernel_rfl) rfl ?_
      exact ⟨⟨9, xa, v2, xc⟩, rfl, hR9.more (by omega), hG9⟩

def DSx (w0 : World) (B g K : Nat) (A : Option Addr) (n c : Nat) (w : World) : Prop :=
  ∃ l : List Cd, OC w w0.heap.size A n c l ∧ RdS w B g K ∧ w0.grownBy w (some g) ∧ g < w0.heap.size

section
variable {w0 w w' : World} {B g K n c : Nat} {A : Option Addr}
theorem DSx.rd (h : DSx w0 B g K A n c w) : RdS w B g K := by
  obtain ⟨l, -, h, -⟩ := h
  exact h
theorem DSx.size (h : DSx w0 B g K A n c w) : w0.heap.size ≤ w.heap.size := by
  obtain ⟨l, -, -, h, -⟩ := h
  exact h.size
theorem DSx.gr (h : DSx w0 B g K A n c w) : w0.grownBy w (some g) := by
  obtain ⟨l, -, -, h, -⟩ := h
  exact h
theorem DSx.pick (h : DSx w0 B g K A n c w) {K' : Nat} (hR : RdS w' B g K') (hg : w.grownBy w' (some g)) : DSx w0 B g K' A n c w' := by
  obtain ⟨l, h1, h2, h3, h4⟩ := h
  refine ⟨l, OR.kept h1 hg ?_, hR, h3.trans hg, h4⟩
  cases hb : Value.ownBlock (.slice A n c) with
  | none => exact .inl rfl
  | some k => exact .inr (fun e => by have := (OR.block h1 k hb).1; have := Option.some.inj e; omega)
theorem DSx.alloc (h : DSx w0 B g K A n c w) (o : Obj) : DSx w0 B g K A n c (w.alloc o) := by
  obtain ⟨l, h1, h2, h3, h4⟩ := h
  exact ⟨l, OR.alloc h1 o, h2.alloc o, h3.trans (World.grownBy_alloc _ _ _), h4⟩
theorem DSx.more (h : DSx w0 B g K A n c w) {K' : Nat} (hK : K ≤ K') : DSx w0 B g K' A n c w := by
  obtain ⟨l, h1, h2, h3, h4⟩ := h
  exact ⟨l, h1, h2.more hK, h3, h4⟩
theorem DSx.start (h : RdS w B g K) : DSx w B g K (some ⟨w.heap.size, 0, none⟩) 0 0 (w.alloc (.cells #[] 76)) :=
  ⟨[], OC.empty_ w _ (Nat.le_refl _), h.alloc _, World.grownBy_alloc _ _ _, h.lt⟩
theorem DSx.reads (h : DSx w0 B g K A n c w) : ∃ l : List Cd, l.length = n ∧ RdC w w.heap.size A l ∧ (A = none → c = 0) := by
  obtain ⟨l, h1, -⟩ := h
  obtain rfl := OC.len h1
  exact ⟨l, rfl, OC.rd h1, OC.nilc h1⟩
/-- A slice drawn by a callee, read in the caller. -/
theorem DSx.inner {w1 : World} {K1 : Nat} {A1 : Option Addr} {n1 c1 : Nat} (h : DSx w0 B g K A n c w) (h1 : DSx w B g K1 A1 n1 c1 w1) : DSx w0 B g K1 A n c w1 := h.pick h1.rd h1.gr
theorem rd_lit {lb : Nat} {cs : Array Value} {t : TypeId} {fr : Nat × Nat} {ys : List Cd} (h : w.heap[lb]? = some (.cells cs t fr)) (hcs : cs.toList = cdsCells ys) : RdC w w.heap.size (some ⟨lb, 0, none⟩) ys := by
  refine ⟨by rw [cdsCells_length], fun _ => ⟨lb, 0, rfl, lt_of_block h, fun j u hu => ?_⟩⟩
  rw [Nat.zero_add, cell_of_row w lb j cs t fr h, ← hu, ← hcs]
  simp
end

section
variable {w0 w : World} {B g K n c : Nat} {A : Option Addr} {ops : Array Oper} {rest : List Oper} {o : Oper} {a : Act} {Q : Exit → Act → World → Prop}
theorem app_ds (D : DSx w0 B g K A n c w) (hgd : o.guard = none) (s x : Operand) (ho : o.op = .call { callee := .builtin .append, args := #[s, x], argTypes := #[23, 23] }) (hs : a.eval s = .slice A n c)
    (A2 : Option Addr) (m cc : Nat) (news : List Cd) (hx : a.eval x = .slice A2 m cc) (hm : news.length = m) (hc : A2 = none → cc = 0) (hrd : RdC w w.heap.size A2 news) (hn : n + m ≤ 1000000000)
    (hK : ∀ A' c' w', DSx w0 B g K A' (n + m) c' w' → wpList Tryz.prog ops Q rest (a.put o.dst (.slice A' (n + m) c')) w') : wpList Tryz.prog ops Q (o :: rest) a w := by
  obtain ⟨l, h1, h2, h3, h4⟩ := D
  refine app_cs hgd s x ho w0.heap.size A n c l h1 hs w.heap.size A2 m cc news hx hm hc hrd (by omega) h3.size ?_
  intro A' c' w' ho' hg'
  refine hK A' c' w' ⟨_, ho', h2.off hg' (fun k e => ?_), ?_, h4⟩
  · have := (OR.block h1 k e).1
    have := h2.base
    omega
  · cases hb : Value.ownBlock (.slice A n c) with
    | none => rw [hb] at hg'; exact h3.trans (hg'.but _)
    | some k => rw [hb] at hg'; exact grown_then h3 hg' (OR.block h1 k hb).1
theorem app_lit (D : DSx w0 B g K A n c w) (hgd : o.guard = none) (s x : Operand) (ho : o.op = .call { callee := .builtin .append, args := #[s, x], argTypes := #[23, 23] }) (hs : a.eval s = .slice A n c)
    (cs : Array Value) (t : TypeId) (m cc : Nat) (ys : List Cd) (hx : a.eval x = .slice (some ⟨w.heap.size, 0, none⟩) m cc) (hm : ys.length = m) (hcs : cs.toList = cdsCells ys) (hn : n + m ≤ 1000000000)
    (hK : ∀ A' c' w', DSx w0 B g K A' (n + m) c' w' → wpList Tryz.prog ops Q rest (a.put o.dst (.slice A' (n + m) c')) w') : wpList Tryz.prog ops Q (o :: rest) a (w.alloc (.cells cs t)) :=
  app_ds (D.alloc _) hgd s x ho hs _ m cc ys hx hm (fun e => by cases e) (rd_lit (heap_alloc_new w (.cells cs t)) hcs) hn hK
end

end Go.Proofs.YtelbfeidpcojmaaGreat
