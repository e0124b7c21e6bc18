/- FnExactOptimize: the walk of the law. -/
import Derived.Test.YtcpjhlkcfohkiaaMarks2
import Derived.Test.YtcpjhlkcfohkiaaRet
import Derived.Test.YtcpjhlkcfohkiaaOpt
namespace Go.Proofs.Ytcpjhlkcfohkiaa
open Go.RowKit
set_option linter.unusedVariables false
set_option linter.unusedSimpArgs false

set_option maxRecDepth 100000 in
set_option maxHeartbeats 4000000 in
theorem fnExactOptimize_c (w : World) (A0 : Option Addr) (c0 : Nat) (l : List Cd) (hA0 : RdC w w.heap.size A0 l) (hL0 : l.length ≤ 9223372036854775807) :
    Calls Try.prog 3 #[.slice A0 l.length c0] w fun e w' => e = .returned (.bool true) ∧ Below w.heap.size w w' := by
  by_cases hbig0 : 1048576 < l.length
  · go_enter Try.func3, Try.ntmps3
    go_wp2_with fail
    refine (szCodeS_c A0 l.length c0 1048576 _ hL0 (by omega) (by omega)).mono ?_
    rintro e w' ⟨rfl, rfl⟩
    rw [if_pos (by omega)]
    go_wp2
    go_ret
    exact ⟨rfl, Below.refl _ _⟩
  · have hn0 : l.length ≤ 1048576 := by omega
    clear hbig0
    have hV : (optL l).length ≤ 1000000000 := by have := optL_len l; omega
    go_enter Try.func3, Try.ntmps3
    go_wp2_with fail
    refine (szCodeS_c A0 l.length c0 1048576 _ hL0 (by omega) (by omega)).mono ?_
    rintro e w' ⟨rfl, rfl⟩
    rw [if_neg (by omega)]
    go_wp2_with fail
    refine (toCodeS_c A0 c0 l _ (hA0) (by omega)).mono ?_
    rintro e w1 ⟨At1, rfl, ot1, b1⟩
    have hB := b1
    have s1 := b1.size
    replace ot1 : OwC _ _ _ _ _ l := .inr ot1
    go_wp2_with fail
    refine (sOptimize_c At1 _ l _ ot1.rd (by omega)).mono ?_
    rintro e w2 ⟨Aw, cw, rfl, ow, b2⟩
    replace hB := below_trans hB (Nat.le_refl _) b2
    replace ot1 := ot1.below b2 (Nat.le_refl _)
    have s2 := b2.size
    clear ot1
    have kw := ow.blk
    go_wp2_with fail
    refine (toCodeS_c A0 c0 l _ ((hA0.below hB).more hB.size) (by omega)).mono ?_
    rintro e w3 ⟨At3, rfl, ot3, b3⟩
    replace hB := below_trans hB (Nat.le_refl _) b3
    replace ow := ow.below b3 (Nat.le_refl _)
    have s3 := b3.size
    replace ot3 : OwC _ _ _ _ _ l := .inr ot3
    have kot3 := ot3.blk
    go_wp2_with fail
    refine (iOptimize_c At3 _ l _ ot3.rd (by omega)).mono ?_
    rintro e w4 ⟨Ag, cg, rfl, og, b4⟩
    replace hB := below_trans hB (Nat.le_refl _) b4
    replace ow := ow.below b4 (Nat.le_refl _)
    replace ot3 := ot3.below b4 (Nat.le_refl _)
    have s4 := b4.size
    have kg := og.blk
    go_wp2_with fail
    refine (eqCodeS_c Ag Aw _ _ (optL l) (optL l) _ og.rd ow.rd (by omega) (by omega)).mono ?_
    rintro e w5 ⟨rfl, b5⟩
    rw [cdsEq_refl]
    replace hB := below_trans hB (Nat.le_refl _) b5
    replace ow := ow.below b5 (Nat.le_refl _)
    replace ot3 := ot3.below b5 (Nat.le_refl _)
    replace og := og.below b5 (Nat.le_refl _)
    have s5 := b5.size
    go_wp2_with fail
    refine (toCodeS_c A0 c0 l _ ((hA0.below hB).more hB.size) (by omega)).mono ?_
    rintro e w6 ⟨At6, rfl, ot6, b6⟩
    replace hB := below_trans hB (Nat.le_refl _) b6
    replace ow := ow.below b6 (Nat.le_refl _)
    replace ot3 := ot3.below b6 (Nat.le_refl _)
    replace og := og.below b6 (Nat.le_refl _)
    have s6 := b6.size
    replace ot6 : OwC _ _ _ _ _ l := .inr ot6
    go_wp2_with fail
    refine (eqCodeS_c At3 At6 _ _ l l _ ot3.rd ot6.rd (by omega) (by omega)).mono ?_
    rintro e w7 ⟨rfl, b7⟩
    rw [cdsEq_refl]
    replace hB := below_trans hB (Nat.le_refl _) b7
    replace ow := ow.below b7 (Nat.le_refl _)
    replace ot3 := ot3.below b7 (Nat.le_refl _)
    replace og := og.below b7 (Nat.le_refl _)
    replace ot6 := ot6.below b7 (Nat.le_refl _)
    have s7 := b7.size
    clear ot6
    go_wp2_with fail
    refine (markC_c At3 _ _ _ _ l _ ot3 (by omega) (by omega) (by omega)).mono ?_
    rintro e w8 ⟨rfl, _, m8⟩
    have s8 := m8.size
    replace hB := m8.below hB (by omega) (by omega)
    replace ow := m8.extC ow ((Apart.mk kw kot3 (by omega)).symm)
    replace og := m8.extC og (Apart.mk kot3 kg (by omega))
    clear ot3
    go_wp2_with fail
    refine (eqCodeS_c Ag Aw _ _ (optL l) (optL l) _ og.rd ow.rd (by omega) (by omega)).mono ?_
    rintro e w9 ⟨rfl, b9⟩
    rw [cdsEq_refl]
    replace hB := below_trans hB (Nat.le_refl _) b9
    replace ow := ow.below b9 (Nat.le_refl _)
    replace og := og.below b9 (Nat.le_refl _)
    have s9 := b9.size
    go_wp2_with fail
    refine (markC_c Ag _ _ _ _ (optL l) _ og (by omega) (by omega) (by omega)).mono ?_
    rintro e w10 ⟨rfl, rm, m10⟩
    have s10 := m10.size
    replace hB := m10.below hB (by omega) (by omega)
    replace ow := m10.extC ow (Apart.symm (Apart.mk kw kg (by omega)))
    clear og
    go_wp2_with fail
    refine (heldCodeS_c Ag _ _ _ 1 _ rm (by omega) (by omega) (by omega)).mono ?_
    rintro e w11 ⟨rfl, b11⟩
    replace hB := below_trans hB (Nat.le_refl _) b11
    replace ow := ow.below b11 (Nat.le_refl _)
    have s11 := b11.size
    replace rm := (rm.below b11).more b11.size
    go_wp2_with fail
    refine (toCodeS_c A0 c0 l _ ((hA0.below hB).more hB.size) (by omega)).mono ?_
    rintro e w12 ⟨At12, rfl, ot12, b12⟩
    replace hB := below_trans hB (Nat.le_refl _) b12
    replace ow := ow.below b12 (Nat.le_refl _)
    have s12 := b12.size
    replace ot12 : OwC _ _ _ _ _ l := .inr ot12
    replace rm := (rm.below b12).more b12.size
    go_wp2_with fail
    refine (iOptimize_c At12 _ l _ ot12.rd (by omega)).mono ?_
    rintro e w13 ⟨Ah, ch, rfl, oh, b13⟩
    replace hB := below_trans hB (Nat.le_refl _) b13
    replace ow := ow.below b13 (Nat.le_refl _)
    replace ot12 := ot12.below b13 (Nat.le_refl _)
    have s13 := b13.size
    replace rm := (rm.below b13).more b13.size
    clear ot12
    go_wp2_with fail
    refine (eqCodeS_c Ah Aw _ _ (optL l) (optL l) _ oh.rd ow.rd (by omega) (by omega)).mono ?_
    rintro e w14 ⟨rfl, b14⟩
    rw [cdsEq_refl]
    replace hB := below_trans hB (Nat.le_refl _) b14
    replace ow := ow.below b14 (Nat.le_refl _)
    replace oh := oh.below b14 (Nat.le_refl _)
    have s14 := b14.size
    replace rm := (rm.below b14).more b14.size
    go_wp2_with fail
    refine (heldCodeS_c Ag _ _ _ 1 _ rm (by omega) (by omega) (by omega)).mono ?_
    rintro e w15 ⟨rfl, b15⟩
    replace hB := below_trans hB (Nat.le_refl _) b15
    replace ow := ow.below b15 (Nat.le_refl _)
    replace oh := oh.below b15 (Nat.le_refl _)
    have s15 := b15.size
    replace rm := (rm.below b15).more b15.size
    go_wp2
    go_ret
    exact ⟨rfl, hB⟩
end Go.Proofs.Ytcpjhlkcfohkiaa
