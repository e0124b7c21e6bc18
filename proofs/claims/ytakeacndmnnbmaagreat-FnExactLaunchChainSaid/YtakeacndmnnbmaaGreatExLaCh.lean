/- FnExactLaunchChain: the walk of the law. -/
import Derived.Test.YtakeacndmnnbmaaGreatMarks2
import Derived.Test.YtakeacndmnnbmaaGreatMem2
import Derived.Test.YtakeacndmnnbmaaGreatHelp3
import Derived.Test.YtakeacndmnnbmaaGreatProgM3
import Derived.Test.YtakeacndmnnbmaaGreatProgM4
namespace Go.Proofs.YtakeacndmnnbmaaGreat
open Go.RowKit
set_option linter.unusedVariables false
set_option linter.unusedSimpArgs false

set_option maxRecDepth 100000 in
set_option maxHeartbeats 4000000 in
theorem fnExactLaunchChain_c (w : World) (A0 : Option Addr) (c0 : Nat) (ps : List (List Cd)) (As0 : Nat → Option Addr) (cs0 : Nat → Nat) (hA0 : RdP w w.heap.size A0 As0 cs0 ps) (hL0 : ps.length ≤ 9223372036854775807) (hM0 : ∀ i, i < ps.length → (ps.getD i []).length ≤ 9223372036854775807) (k : Int) (_ : (Lit.int .i64 k).wf = true) (A2 : Option Addr) (c2 : Nat) (m : List Int) (hA2 : RdI w w.heap.size A2 m) (hL2 : m.length ≤ 9223372036854775807) :
    Calls Tryz.prog 8 #[.slice A0 ps.length c0, .int .i64 k, .slice A2 m.length c2] w fun e w' => e = .returned (.bool true) ∧ Below w.heap.size w w' := by
  by_cases hbig2 : 1048576 < m.length
  · go_enter Tryz.func8, Tryz.ntmps8
    go_wp2
    go_ret
    exact ⟨rfl, Below.refl _ _⟩
  · have hn2 : m.length ≤ 1048576 := by omega
    clear hbig2
    have hV : (chainM ps k m).length ≤ 1000000000 := by have := chainM_len ps k m; omega
    have he : (((chainN ps k m : Int)) != ((chainN ps k m : Int))) = false := by simp
    go_enter Tryz.func8, Tryz.ntmps8
    go_wp2_with fail
    refine (szCodeSS_c A0 c0 ps _ hA0 hL0 hM0).mono ?_
    rintro e w' ⟨r, rfl, hr1, hr2, hr3, rfl⟩
    by_cases hneg : r < 0
    · go_wp2
      go_ret
      exact ⟨rfl, Below.refl _ _⟩
    · have hS := hr3 (by omega)
      have hnn : ¬ (r < 0) := hneg
      have hls1 : ∀ i, i < ps.length → (ps.getD i []).length ≤ 1048576 := fun i hi => by have := lenSum_get ps hi; omega
      have HLS := Lib.hid hls1
      clear hneg hr3 hr1 hr2 hls1 hM0
      go_wp2_with fail
      refine (toCodeSS_c A0 c0 ps _ (hA0) (by omega) HLS.out).mono ?_
      rintro e w1 ⟨At1, ct1, bt1, rfl, ot1, b1⟩
      have hB := b1
      have s1 := b1.size
      go_wp2_with fail
      refine (toIntS_c A2 c2 m _ ((hA2.below hB).more hB.size) (by omega)).mono ?_
      rintro e w2 ⟨At2, rfl, ot2, b2⟩
      replace hB := below_trans hB (Nat.le_refl _) b2
      replace ot1 := ot1.below b2
      have s2 := b2.size
      replace ot2 : OwI _ _ _ _ _ m := .inr ot2
      go_wp2_with fail
      refine (sLaunchChain_c (some ⟨w.heap.size, 0, none⟩) At2 _ _ ps k m _ ot1.rd ot2.rd (fun i hi => by have := HLS.out i hi; omega) (by omega) (by omega)).mono ?_
      rintro e w3 ⟨Aw, cw, rfl, ow, b3⟩
      replace hB := below_trans hB (Nat.le_refl _) b3
      replace ot1 := ot1.below b3
      replace ot2 := ot2.below b3 (Nat.le_refl _)
      have s3 := b3.size
      clear ot1
      clear ot2
      have kw := ow.blk
      go_wp2_with fail
      refine (toCodeSS_c A0 c0 ps _ ((hA0.below hB).more hB.size) (by omega) HLS.out).mono ?_
      rintro e w4 ⟨At4, ct4, bt4, rfl, ot4, b4⟩
      replace hB := below_trans hB (Nat.le_refl _) b4
      replace ow := ow.below b4 (Nat.le_refl _)
      have s4 := b4.size
      go_wp2_with fail
      refine (toIntS_c A2 c2 m _ ((hA2.below hB).more hB.size) (by omega)).mono ?_
      rintro e w5 ⟨At5, rfl, ot5, b5⟩
      replace hB := below_trans hB (Nat.le_refl _) b5
      replace ow := ow.below b5 (Nat.le_refl _)
      replace ot4 := ot4.below b5
      have s5 := b5.size
      replace ot5 : OwI _ _ _ _ _ m := .inr ot5
      have kot5 := ot5.blk
      go_wp2_with fail
      refine (iLaunchChain_c (some ⟨w3.heap.size, 0, none⟩) At5 _ _ ps k m _ ot4.rd ot5.rd (fun i hi => by have := HLS.out i hi; omega) (by omega) (by omega)).mono ?_
      rintro e w6 ⟨Ag, cg, rfl, og, b6⟩
      replace hB := below_trans hB (Nat.le_refl _) b6
      replace ow := ow.below b6 (Nat.le_refl _)
      replace ot4 := ot4.below b6
      replace ot5 := ot5.below b6 (Nat.le_refl _)
      have s6 := b6.size
      have kg := og.blk
      go_wp2_with fail
      refine (eqIntS_c Ag Aw _ _ (chainM ps k m) (chainM ps k m) _ og.rd ow.rd (by omega) (by omega)).mono ?_
      rintro e w7 ⟨rfl, b7⟩
      rw [intsEq_refl]
      replace hB := below_trans hB (Nat.le_refl _) b7
      replace ow := ow.below b7 (Nat.le_refl _)
      replace ot4 := ot4.below b7
      replace ot5 := ot5.below b7 (Nat.le_refl _)
      replace og := og.below b7 (Nat.le_refl _)
      have s7 := b7.size
      go_wp2_with fail
      refine (toCodeSS_c A0 c0 ps _ ((hA0.below hB).more hB.size) (by omega) HLS.out).mono ?_
      rintro e w8 ⟨At8, ct8, bt8, rfl, ot8, b8⟩
      replace hB := below_trans hB (Nat.le_refl _) b8
      replace ow := ow.below b8 (Nat.le_refl _)
      replace ot4 := ot4.below b8
      replace ot5 := ot5.below b8 (Nat.le_refl _)
      replace og := og.below b8 (Nat.le_refl _)
      have s8 := b8.size
      go_wp2_with fail
      refine (eqCodeSS_c (some ⟨w3.heap.size, 0, none⟩) (some ⟨w7.heap.size, 0, none⟩) _ _ ps _ ot4.rd ot8.rd (by omega) HLS.out).mono ?_
      rintro e w9 ⟨rfl, b9⟩
      replace hB := below_trans hB (Nat.le_refl _) b9
      replace ow := ow.below b9 (Nat.le_refl _)
      replace ot4 := ot4.below b9
      replace ot5 := ot5.below b9 (Nat.le_refl _)
      replace og := og.below b9 (Nat.le_refl _)
      replace ot8 := ot8.below b9
      have s9 := b9.size
      clear ot8
      go_wp2_with fail
      refine (toIntS_c A2 c2 m _ ((hA2.below hB).more hB.size) (by omega)).mono ?_
      rintro e w10 ⟨At10, rfl, ot10, b10⟩
      replace hB := below_trans hB (Nat.le_refl _) b10
      replace ow := ow.below b10 (Nat.le_refl _)
      replace ot4 := ot4.below b10
      replace ot5 := ot5.below b10 (Nat.le_refl _)
      replace og := og.below b10 (Nat.le_refl _)
      have s10 := b10.size
      replace ot10 : OwI _ _ _ _ _ m := .inr ot10
      go_wp2_with fail
      refine (eqIntS_c At5 At10 _ _ m m _ ot5.rd ot10.rd (by omega) (by omega)).mono ?_
      rintro e w11 ⟨rfl, b11⟩
      rw [intsEq_refl]
      replace hB := below_trans hB (Nat.le_refl _) b11
      replace ow := ow.below b11 (Nat.le_refl _)
      replace ot4 := ot4.below b11
      replace ot5 := ot5.below b11 (Nat.le_refl _)
      replace og := og.below b11 (Nat.le_refl _)
      replace ot10 := ot10.below b11 (Nat.le_refl _)
      have s11 := b11.size
      clear ot10
      go_wp2_with fail
      refine (markCodeSS_c ot4 hS).mono ?_
      rintro e w12 ⟨rfl, m12⟩
      have s12 := m12.size
      replace hB := hB.trans (m12.below (by omega) (by omega))
      replace ow := m12.oi ow (fun hn q hq => by have := kw hn q hq; omega)
      replace ot5 := m12.oi ot5 (fun hn q hq => by have := kot5 hn q hq; omega)
      replace og := m12.oi og (fun hn q hq => by have := kg hn q hq; omega)
      clear ot4
      go_wp2_with fail
      refine (markI_c At5 _ _ _ _ m _ ot5 (by omega) (by omega) (by omega)).mono ?_
      rintro e w13 ⟨rfl, _, m13⟩
      have s13 := m13.size
      replace hB := m13.below hB (by omega) (by omega)
      replace ow := m13.extI ow ((Apart.mk kw kot5 (by omega)).symm)
      replace og := m13.extI og (Apart.mk kot5 kg (by omega))
      clear ot5
      go_wp2_with fail
      refine (eqIntS_c Ag Aw _ _ (chainM ps k m) (chainM ps k m) _ og.rd ow.rd (by omega) (by omega)).mono ?_
      rintro e w14 ⟨rfl, b14⟩
      rw [intsEq_refl]
      replace hB := below_trans hB (Nat.le_refl _) b14
      replace ow := ow.below b14 (Nat.le_refl _)
      replace og := og.below b14 (Nat.le_refl _)
      have s14 := b14.size
      go_wp2_with fail
      refine (markI_c Ag _ _ _ _ (chainM ps k m) _ og (by omega) (by omega) (by omega)).mono ?_
      rintro e w15 ⟨rfl, rm, m15⟩
      have s15 := m15.size
      replace hB := m15.below hB (by omega) (by omega)
      replace ow := m15.extI ow (Apart.symm (Apart.mk kw kg (by omega)))
      clear og
      go_wp2_with fail
      refine (heldIntS_c Ag _ _ _ 1 _ rm (by omega) (by omega) (by omega)).mono ?_
      rintro e w16 ⟨rfl, b16⟩
      replace hB := below_trans hB (Nat.le_refl _) b16
      replace ow := ow.below b16 (Nat.le_refl _)
      have s16 := b16.size
      replace rm := (rm.below b16).more b16.size
      go_wp2_with fail
      refine (toCodeSS_c A0 c0 ps _ ((hA0.below hB).more hB.size) (by omega) HLS.out).mono ?_
      rintro e w17 ⟨At17, ct17, bt17, rfl, ot17, b17⟩
      replace hB := below_trans hB (Nat.le_refl _) b17
      replace ow := ow.below b17 (Nat.le_refl _)
      have s17 := b17.size
      replace rm := (rm.below b17).more b17.size
      go_wp2_with fail
      refine (toIntS_c A2 c2 m _ ((hA2.below hB).more hB.size) (by omega)).mono ?_
      rintro e w18 ⟨At18, rfl, ot18, b18⟩
      replace hB := below_trans hB (Nat.le_refl _) b18
      replace ow := ow.below b18 (Nat.le_refl _)
      replace ot17 := ot17.below b18
      have s18 := b18.size
      replace ot18 : OwI _ _ _ _ _ m := .inr ot18
      replace rm := (rm.below b18).more b18.size
      go_wp2_with fail
      refine (iLaunchChain_c (some ⟨w16.heap.size, 0, none⟩) At18 _ _ ps k m _ ot17.rd ot18.rd (fun i hi => by have := HLS.out i hi; omega) (by omega) (by omega)).mono ?_
      rintro e w19 ⟨Ah, ch, rfl, oh, b19⟩
      replace hB := below_trans hB (Nat.le_refl _) b19
      replace ow := ow.below b19 (Nat.le_refl _)
      replace ot17 := ot17.below b19
      replace ot18 := ot18.below b19 (Nat.le_refl _)
      have s19 := b19.size
      replace rm := (rm.below b19).more b19.size
      clear ot17
      clear ot18
      go_wp2_with fail
      refine (eqIntS_c Ah Aw _ _ (chainM ps k m) (chainM ps k m) _ oh.rd ow.rd (by omega) (by omega)).mono ?_
      rintro e w20 ⟨rfl, b20⟩
      rw [intsEq_refl]
      replace hB := below_trans hB (Nat.le_refl _) b20
      replace ow := ow.below b20 (Nat.le_refl _)
      replace oh := oh.below b20 (Nat.le_refl _)
      have s20 := b20.size
      replace rm := (rm.below b20).more b20.size
      go_wp2_with fail
      refine (heldIntS_c Ag _ _ _ 1 _ rm (by omega) (by omega) (by omega)).mono ?_
      rintro e w21 ⟨rfl, b21⟩
      replace hB := below_trans hB (Nat.le_refl _) b21
      replace ow := ow.below b21 (Nat.le_refl _)
      replace oh := oh.below b21 (Nat.le_refl _)
      have s21 := b21.size
      replace rm := (rm.below b21).more b21.size
      go_wp2
      go_ret
      exact ⟨rfl, hB⟩
end Go.Proofs.YtakeacndmnnbmaaGreat
