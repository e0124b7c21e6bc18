/- FnExactRegsUsed: the walk of the law. -/
import Derived.Test.YtfpecplpammhiaaMarks2
import Derived.Test.YtfpecplpammhiaaRet
import Derived.Test.YtfpecplpammhiaaWrites
namespace Go.Proofs.Ytfpecplpammhiaa
open Go.RowKit

set_option maxHeartbeats 4000000 in
theorem fnExactRegsUsed_c (w : World) (A0 : Option Addr) (c0 : Nat) (l : List Cd) (hA0 : RdC w w.heap.size A0 l) (hL0 : l.length ≤ 9223372036854775807) :
    Calls Try.prog 6 #[.slice A0 l.length c0] w fun e w' => e = .returned (.bool true) ∧ Below w.heap.size w w' := by
  by_cases hbig0 : 1048576 < l.length
  · go_enter Try.func6, Try.ntmps6
    go_wp2_with fail
    refine (szCodeS_c A0 l.length c0 1048576 _ hL0 (by omega) (by omega)).mono ?_
    rintro e w' ⟨rfl, rfl⟩
    rw [if_pos (by omega)]
    go_wp2
    go_ret
    exact ⟨rfl, Below.refl _ _⟩
  · have hn0 : l.length ≤ 1048576 := by omega
    clear hbig0
    have he : ((regsUsedI l) != (regsUsedI l)) = false := by simp
    go_enter Try.func6, Try.ntmps6
    go_wp2_with fail
    refine (szCodeS_c A0 l.length c0 1048576 _ hL0 (by omega) (by omega)).mono ?_
    rintro e w' ⟨rfl, rfl⟩
    rw [if_neg (by omega)]
    go_wp2_with fail
    refine (toCodeS_c A0 c0 l _ (hA0) (by omega)).mono ?_
    rintro e w1 ⟨At1, rfl, ot1, b1⟩
    have hB := b1
    have s1 := b1.size
    replace ot1 : OwC _ _ _ _ _ l := .inr ot1
    go_wp2_with fail
    refine (sRegsUsed_c At1 _ l _ ot1.rd (by omega)).mono ?_
    rintro e w2 ⟨rfl, b2⟩
    replace hB := below_trans hB (Nat.le_refl _) b2
    replace ot1 := ot1.below b2 (Nat.le_refl _)
    have s2 := b2.size
    clear ot1
    go_wp2_with fail
    refine (toCodeS_c A0 c0 l _ ((hA0.below hB).more hB.size) (by omega)).mono ?_
    rintro e w3 ⟨At3, rfl, ot3, b3⟩
    replace hB := below_trans hB (Nat.le_refl _) b3
    have s3 := b3.size
    replace ot3 : OwC _ _ _ _ _ l := .inr ot3
    go_wp2_with fail
    refine (iRegsUsed_c At3 _ l _ ot3.rd (by omega)).mono ?_
    rintro e w4 ⟨rfl, b4⟩
    replace hB := below_trans hB (Nat.le_refl _) b4
    replace ot3 := ot3.below b4 (Nat.le_refl _)
    have s4 := b4.size
    go_wp2_with fail
    refine (toCodeS_c A0 c0 l _ ((hA0.below hB).more hB.size) (by omega)).mono ?_
    rintro e w5 ⟨At5, rfl, ot5, b5⟩
    replace hB := below_trans hB (Nat.le_refl _) b5
    replace ot3 := ot3.below b5 (Nat.le_refl _)
    have s5 := b5.size
    replace ot5 : OwC _ _ _ _ _ l := .inr ot5
    go_wp2_with fail
    refine (eqCodeS_c At3 At5 _ _ l l _ ot3.rd ot5.rd (by omega) (by omega)).mono ?_
    rintro e w6 ⟨rfl, b6⟩
    rw [cdsEq_refl]
    replace hB := below_trans hB (Nat.le_refl _) b6
    replace ot3 := ot3.below b6 (Nat.le_refl _)
    replace ot5 := ot5.below b6 (Nat.le_refl _)
    have s6 := b6.size
    clear ot5
    go_wp2
    go_ret
    exact ⟨rfl, hB⟩
end Go.Proofs.Ytfpecplpammhiaa
