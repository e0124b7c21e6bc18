/- FnExactOccupancy: the walk of the law. -/
import Derived.Test.YtlpdakifmdggdaaMarks2
import Derived.Test.YtlpdakifmdggdaaRet
import Derived.Test.YtlpdakifmdggdaaProfJ
import Derived.Test.YtlpdakifmdggdaaHelp3
namespace Go.Proofs.Ytlpdakifmdggdaa
open Go.RowKit
set_option linter.unusedVariables false
set_option linter.unusedSimpArgs false

set_option maxRecDepth 100000 in
set_option maxHeartbeats 4000000 in
theorem fnExactOccupancy_c (w : World) (A0 : Option Addr) (c0 : Nat) (l : List Cd) (hA0 : RdC w w.heap.size A0 l) (hL0 : l.length ≤ 9223372036854775807) (n : Int) (_ : (Lit.int .i64 n).wf = true) (A2 : Option Addr) (c2 : Nat) (m : List Int) (hA2 : RdI w w.heap.size A2 m) (hL2 : m.length ≤ 9223372036854775807) :
    Calls Try.prog 5 #[.slice A0 l.length c0, .int .i64 n, .slice A2 m.length c2] w fun e w' => e = .returned (.bool true) ∧ Below w.heap.size w w' := by
  by_cases hbig2 : 1048576 < m.length
  · go_enter Try.func5, Try.ntmps5
    go_wp2
    go_ret
    exact ⟨rfl, Below.refl _ _⟩
  · have hn2 : m.length ≤ 1048576 := by omega
    clear hbig2
    by_cases hbig0 : 1048576 < l.length
    · go_enter Try.func5, Try.ntmps5
      go_wp2_with fail
      refine (szCodeS_c A0 l.length c0 1048576 _ hL0 (by omega) (by omega)).mono ?_
      rintro e w' ⟨rfl, rfl⟩
      rw [if_pos (by omega)]
      go_wp2
      go_ret
      exact ⟨rfl, Below.refl _ _⟩
    · have hn0 : l.length ≤ 1048576 := by omega
      clear hbig0
      have he : ((occL l n m) != (occL l n m)) = false := by simp
      go_enter Try.func5, Try.ntmps5
      go_wp2_with fail
      refine (szCodeS_c A0 l.length c0 1048576 _ hL0 (by omega) (by omega)).mono ?_
      rintro e w' ⟨rfl, rfl⟩
      rw [if_neg (by omega)]
      go_wp2_with fail
      refine (toCodeS_c A0 c0 l _ (hA0) (by omega)).mono ?_
      rintro e w1 ⟨At1, rfl, ot1, b1⟩
      have hB := b1
      have s1 := b1.size
      replace ot1 : OwC _ _ _ _ _ l := .inr ot1
      go_wp2_with fail
      refine (toIntS_c A2 c2 m _ ((hA2.below hB).more hB.size) (by omega)).mono ?_
      rintro e w2 ⟨At2, rfl, ot2, b2⟩
      replace hB := below_trans hB (Nat.le_refl _) b2
      replace ot1 := ot1.below b2 (Nat.le_refl _)
      have s2 := b2.size
      replace ot2 : OwI _ _ _ _ _ m := .inr ot2
      go_wp2_with fail
      refine (sOccupancy_c At1 At2 _ _ l n m _ ot1.rd ot2.rd (by omega) (by omega)).mono ?_
      rintro e w3 ⟨rfl, b3⟩
      replace hB := below_trans hB (Nat.le_refl _) b3
      replace ot1 := ot1.below b3 (Nat.le_refl _)
      replace ot2 := ot2.below b3 (Nat.le_refl _)
      have s3 := b3.size
      clear ot1
      clear ot2
      go_wp2_with fail
      refine (toCodeS_c A0 c0 l _ ((hA0.below hB).more hB.size) (by omega)).mono ?_
      rintro e w4 ⟨At4, rfl, ot4, b4⟩
      replace hB := below_trans hB (Nat.le_refl _) b4
      have s4 := b4.size
      replace ot4 : OwC _ _ _ _ _ l := .inr ot4
      go_wp2_with fail
      refine (toIntS_c A2 c2 m _ ((hA2.below hB).more hB.size) (by omega)).mono ?_
      rintro e w5 ⟨At5, rfl, ot5, b5⟩
      replace hB := below_trans hB (Nat.le_refl _) b5
      replace ot4 := ot4.below b5 (Nat.le_refl _)
      have s5 := b5.size
      replace ot5 : OwI _ _ _ _ _ m := .inr ot5
      go_wp2_with fail
      refine (iOccupancy_c At4 At5 _ _ l n m _ ot4.rd ot5.rd (by omega) (by omega)).mono ?_
      rintro e w6 ⟨rfl, b6⟩
      replace hB := below_trans hB (Nat.le_refl _) b6
      replace ot4 := ot4.below b6 (Nat.le_refl _)
      replace ot5 := ot5.below b6 (Nat.le_refl _)
      have s6 := b6.size
      go_wp2_with fail
      refine (toCodeS_c A0 c0 l _ ((hA0.below hB).more hB.size) (by omega)).mono ?_
      rintro e w7 ⟨At7, rfl, ot7, b7⟩
      replace hB := below_trans hB (Nat.le_refl _) b7
      replace ot4 := ot4.below b7 (Nat.le_refl _)
      replace ot5 := ot5.below b7 (Nat.le_refl _)
      have s7 := b7.size
      replace ot7 : OwC _ _ _ _ _ l := .inr ot7
      go_wp2_with fail
      refine (eqCodeS_c At4 At7 _ _ l l _ ot4.rd ot7.rd (by omega) (by omega)).mono ?_
      rintro e w8 ⟨rfl, b8⟩
      rw [cdsEq_refl]
      replace hB := below_trans hB (Nat.le_refl _) b8
      replace ot4 := ot4.below b8 (Nat.le_refl _)
      replace ot5 := ot5.below b8 (Nat.le_refl _)
      replace ot7 := ot7.below b8 (Nat.le_refl _)
      have s8 := b8.size
      clear ot7
      go_wp2_with fail
      refine (toIntS_c A2 c2 m _ ((hA2.below hB).more hB.size) (by omega)).mono ?_
      rintro e w9 ⟨At9, rfl, ot9, b9⟩
      replace hB := below_trans hB (Nat.le_refl _) b9
      replace ot4 := ot4.below b9 (Nat.le_refl _)
      replace ot5 := ot5.below b9 (Nat.le_refl _)
      have s9 := b9.size
      replace ot9 : OwI _ _ _ _ _ m := .inr ot9
      go_wp2_with fail
      refine (eqIntS_c At5 At9 _ _ m m _ ot5.rd ot9.rd (by omega) (by omega)).mono ?_
      rintro e w10 ⟨rfl, b10⟩
      rw [intsEq_refl]
      replace hB := below_trans hB (Nat.le_refl _) b10
      replace ot4 := ot4.below b10 (Nat.le_refl _)
      replace ot5 := ot5.below b10 (Nat.le_refl _)
      replace ot9 := ot9.below b10 (Nat.le_refl _)
      have s10 := b10.size
      clear ot9
      go_wp2
      go_ret
      exact ⟨rfl, hB⟩
end Go.Proofs.Ytlpdakifmdggdaa
