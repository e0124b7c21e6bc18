/- FnExactProfileOf: the walk of the law. -/
import Derived.Test.YtlpdakifmdggdaaMarks2
import Derived.Test.YtlpdakifmdggdaaRet
import Derived.Test.YtlpdakifmdggdaaProfJ
import Derived.Test.YtlpdakifmdggdaaHelp3
namespace Go.Proofs.Ytlpdakifmdggdaa
open Go.RowKit
set_option linter.unusedVariables false
set_option linter.unusedSimpArgs false

theorem eqProfile_c (s a o8 o9 o10 : Nat) (w : World) :
    Calls Try.prog 25 #[.agg #[.int .i64 s, .int .i64 a, .int .i64 o8, .int .i64 o9, .int .i64 o10], .agg #[.int .i64 s, .int .i64 a, .int .i64 o8, .int .i64 o9, .int .i64 o10]] w fun e w' => e = .returned (.bool true) ∧ Below w.heap.size w w' := by
  go_enter Try.func25, Try.ntmps25
  go_wp2
  go_ret
  exact ⟨rfl, (by repeat (first | exact Below.refl _ _ | assumption | refine Below.alloc ?_ (by simp <;> omega) _ | refine Below.setCell ?_ (by simp <;> omega) _ | refine Below.drew ?_))⟩

set_option maxRecDepth 100000 in
set_option maxHeartbeats 4000000 in
theorem fnExactProfileOf_c (w : World) (A0 : Option Addr) (c0 : Nat) (l : List Cd) (hA0 : RdC w w.heap.size A0 l) (hL0 : l.length ≤ 9223372036854775807) (n : Int) (_ : (Lit.int .i64 n).wf = true) (A2 : Option Addr) (c2 : Nat) (m : List Int) (hA2 : RdI w w.heap.size A2 m) (hL2 : m.length ≤ 9223372036854775807) :
    Calls Try.prog 6 #[.slice A0 l.length c0, .int .i64 n, .slice A2 m.length c2] w fun e w' => e = .returned (.bool true) ∧ Below w.heap.size w w' := by
  by_cases hbig2 : 1048576 < m.length
  · go_enter Try.func6, Try.ntmps6
    go_wp2
    go_ret
    exact ⟨rfl, Below.refl _ _⟩
  · have hn2 : m.length ≤ 1048576 := by omega
    clear hbig2
    by_cases hbig0 : 1048576 < l.length
    · go_enter Try.func6, Try.ntmps6
      go_wp2_with fail
      refine (szCodeS_c A0 l.length c0 1048576 _ hL0 (by omega) (by omega)).mono ?_
      rintro e w' ⟨rfl, rfl⟩
      rw [if_pos (by omega)]
      go_wp2
      go_ret
      exact ⟨rfl, Below.refl _ _⟩
    · have hn0 : l.length ≤ 1048576 := by omega
      clear hbig0
      obtain ⟨s, a, o8, o9, o10, hpv⟩ : ∃ s a o8 o9 o10 : Nat, profL l n m = .agg #[.int .i64 s, .int .i64 a, .int .i64 o8, .int .i64 o9, .int .i64 o10] := ⟨_, _, _, _, _, rfl⟩
      have HPV := Lib.hid hpv
      clear hpv
      go_enter Try.func6, Try.ntmps6
      go_wp2_with fail
      refine (szCodeS_c A0 l.length c0 1048576 _ hL0 (by omega) (by omega)).mono ?_
      rintro e w' ⟨rfl, rfl⟩
      rw [if_neg (by omega)]
      go_wp2_with fail
      refine (toCodeS_c A0 c0 l _ (hA0) (by omega)).mono ?_
      rintro e w1 ⟨At1, rfl, ot1, b1⟩
      have hB := b1
      have s1 := b1.size
      replace ot1 : OwC _ _ _ _ _ l := .inr ot1
      go_wp2_with fail
      refine (toIntS_c A2 c2 m _ ((hA2.below hB).more hB.size) (by omega)).mono ?_
      rintro e w2 ⟨At2, rfl, ot2, b2⟩
      replace hB := below_trans hB (Nat.le_refl _) b2
      replace ot1 := ot1.below b2 (Nat.le_refl _)
      have s2 := b2.size
      replace ot2 : OwI _ _ _ _ _ m := .inr ot2
      go_wp2_with fail
      refine (sProfileOf_c At1 At2 _ _ l n m _ ot1.rd ot2.rd (by omega) (by omega)).mono ?_
      rintro e w3 ⟨rfl, b3⟩
      rw [HPV.out]
      replace hB := below_trans hB (Nat.le_refl _) b3
      replace ot1 := ot1.below b3 (Nat.le_refl _)
      replace ot2 := ot2.below b3 (Nat.le_refl _)
      have s3 := b3.size
      clear ot1
      clear ot2
      replace hB := hB.alloc hB.size (.cells #[.int .i64 s, .int .i64 a, .int .i64 o8, .int .i64 o9, .int .i64 o10] 36)
      have hp8 := heap_alloc_new w3 (.cells #[.int .i64 s, .int .i64 a, .int .i64 o8, .int .i64 o9, .int .i64 o10] 36)
      have s3a : (w3.alloc (.cells #[.int .i64 s, .int .i64 a, .int .i64 o8, .int .i64 o9, .int .i64 o10] 36)).heap.size = w3.heap.size + 1 := by simp
      go_wp2_with fail
      refine (toCodeS_c A0 c0 l _ ((hA0.below hB).more hB.size) (by omega)).mono ?_
      rintro e w4 ⟨At4, rfl, ot4, b4⟩
      replace hp8 := (Ext.of_below b4).heap_ hp8
      replace hB := below_trans hB (Nat.le_refl _) b4
      have s4 := b4.size
      replace ot4 : OwC _ _ _ _ _ l := .inr ot4
      go_wp2_with fail
      refine (toIntS_c A2 c2 m _ ((hA2.below hB).more hB.size) (by omega)).mono ?_
      rintro e w5 ⟨At5, rfl, ot5, b5⟩
      replace hp8 := (Ext.of_below b5).heap_ hp8
      replace hB := below_trans hB (Nat.le_refl _) b5
      replace ot4 := ot4.below b5 (Nat.le_refl _)
      have s5 := b5.size
      replace ot5 : OwI _ _ _ _ _ m := .inr ot5
      go_wp2_with fail
      refine (iProfileOf_c At4 At5 _ _ l n m _ ot4.rd ot5.rd (by omega) (by omega)).mono ?_
      rintro e w6 ⟨rfl, b6⟩
      rw [HPV.out]
      replace hp8 := (Ext.of_below b6).heap_ hp8
      have k0 := cell_of_heap hp8 0
      have k1 := cell_of_heap hp8 1
      have k2 := cell_of_heap hp8 2
      have k3 := cell_of_heap hp8 3
      have k4 := cell_of_heap hp8 4
      have k8 := lt_of_block hp8
      replace hB := below_trans hB (Nat.le_refl _) b6
      replace ot4 := ot4.below b6 (Nat.le_refl _)
      replace ot5 := ot5.below b6 (Nat.le_refl _)
      have s6 := b6.size
      replace hB := hB.alloc hB.size (.cells #[.int .i64 s, .int .i64 a, .int .i64 o8, .int .i64 o9, .int .i64 o10] 36)
      replace ot4 : OwC _ _ _ _ _ l := ot4.imp id (fun h => OR.alloc h (.cells #[.int .i64 s, .int .i64 a, .int .i64 o8, .int .i64 o9, .int .i64 o10] 36))
      replace ot5 : OwI _ _ _ _ _ m := ot5.imp id (fun h => OR.alloc h (.cells #[.int .i64 s, .int .i64 a, .int .i64 o8, .int .i64 o9, .int .i64 o10] 36))
      have s6a : (w6.alloc (.cells #[.int .i64 s, .int .i64 a, .int .i64 o8, .int .i64 o9, .int .i64 o10] 36)).heap.size = w6.heap.size + 1 := by simp
      go_wp2_with fail
      refine (eqProfile_c s a o8 o9 o10 _).mono ?_
      rintro e w6b ⟨rfl, b6b⟩
      replace hB := below_trans hB (Nat.le_refl _) b6b
      replace ot4 := ot4.below b6b (Nat.le_refl _)
      replace ot5 := ot5.below b6b (Nat.le_refl _)
      have s6b := b6b.size
      go_wp2_with fail
      refine (toCodeS_c A0 c0 l _ ((hA0.below hB).more hB.size) (by omega)).mono ?_
      rintro e w7 ⟨At7, rfl, ot7, b7⟩
      replace hB := below_trans hB (Nat.le_refl _) b7
      replace ot4 := ot4.below b7 (Nat.le_refl _)
      replace ot5 := ot5.below b7 (Nat.le_refl _)
      have s7 := b7.size
      replace ot7 : OwC _ _ _ _ _ l := .inr ot7
      go_wp2_with fail
      refine (eqCodeS_c At4 At7 _ _ l l _ ot4.rd ot7.rd (by omega) (by omega)).mono ?_
      rintro e w8 ⟨rfl, b8⟩
      rw [cdsEq_refl]
      replace hB := below_trans hB (Nat.le_refl _) b8
      replace ot4 := ot4.below b8 (Nat.le_refl _)
      replace ot5 := ot5.below b8 (Nat.le_refl _)
      replace ot7 := ot7.below b8 (Nat.le_refl _)
      have s8 := b8.size
      clear ot7
      go_wp2_with fail
      refine (toIntS_c A2 c2 m _ ((hA2.below hB).more hB.size) (by omega)).mono ?_
      rintro e w9 ⟨At9, rfl, ot9, b9⟩
      replace hB := below_trans hB (Nat.le_refl _) b9
      replace ot4 := ot4.below b9 (Nat.le_refl _)
      replace ot5 := ot5.below b9 (Nat.le_refl _)
      have s9 := b9.size
      replace ot9 : OwI _ _ _ _ _ m := .inr ot9
      go_wp2_with fail
      refine (eqIntS_c At5 At9 _ _ m m _ ot5.rd ot9.rd (by omega) (by omega)).mono ?_
      rintro e w10 ⟨rfl, b10⟩
      rw [intsEq_refl]
      replace hB := below_trans hB (Nat.le_refl _) b10
      replace ot4 := ot4.below b10 (Nat.le_refl _)
      replace ot5 := ot5.below b10 (Nat.le_refl _)
      replace ot9 := ot9.below b10 (Nat.le_refl _)
      have s10 := b10.size
      clear ot9
      go_wp2
      go_ret
      exact ⟨rfl, hB⟩
end Go.Proofs.Ytlpdakifmdggdaa
