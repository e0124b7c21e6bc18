/- CanPick: the law. -/
import Derived.Test.YtfpecplpammhiaaPicks2
import Derived.Test.YtfpecplpammhiaaMarks
import Derived.Test.YtfpecplpammhiaaHelp2
namespace Go.Proofs.Ytfpecplpammhiaa
open Go.RowKit

theorem iCanPick_c (A : Option Addr) (c : Nat) (l : List Cd) (k : Int) (w : World) (hA : RdC w w.heap.size A l) (hl : l.length ≤ 1000000000) :
    Calls Try.prog 18 #[.slice A l.length c, .int .i64 k] w fun e w' => e = .returned (.bool (canPick l k)) ∧ Below w.heap.size w w' := by
  cases ho : (pv l && (inR k 0 (l.length - 1) && opB (cdAt l k.toNat))) with
  | false =>
    have hf : canPick l k = false := by
      cases hc : canPick l k with
      | false => rfl
      | true =>
        exfalso
        simp only [canPick, Bool.and_eq_true, inR_iff] at hc
        obtain ⟨h1, h2, h3⟩ := hc
        have : inR k 0 (l.length - 1) = true := by rw [inR_iff]; omega
        simp only [h1, this, Bool.true_and] at ho
        simp only [pickB, Bool.and_eq_true, beq_iff_eq] at h3
        have h4 := h3.1.1
        rw [cdAt, opAt] at *
        split at h4 <;> simp_all [opB]
    have HF := Lib.hid hf
    clear hf
    go_enter Try.func18, Try.ntmps18
    go_wp2_with fail
    refine (opens_c A c l k w hA hl).mono ?_
    rintro e w1 ⟨rfl, hb⟩
    go_wp2
    go_ret
    exact ⟨retb (by rw [HF.out]), hb⟩
  | true =>
    have ho' := ho
    simp only [Bool.and_eq_true, inR_iff] at ho'
    obtain ⟨hp, ⟨h1, h2⟩, hop⟩ := ho'
    obtain ⟨n, rfl⟩ := Int.eq_ofNat_of_zero_le h1
    have hn : n ≤ l.length := by omega
    have HP := Lib.hid hp
    clear hp hop h1
    go_enter Try.func18, Try.ntmps18
    go_wp2_with fail
    refine (opens_c A c l n w hA hl).mono ?_
    rintro e w1 ⟨rfl, hb⟩
    rw [ho]
    have HO := Lib.hid ho
    clear ho
    go_wp2_with fail
    refine (iCanPick0_c A c n l w1 ((hA.below hb).more hb.size) hl hn).mono ?_
    rintro e w2 ⟨rfl, hb2⟩
    go_wp2
    go_ret
    exact ⟨retb (by rw [canPick_nat, HP.out]; rfl), below_trans hb (Nat.le_refl _) hb2⟩

theorem fnExactCanPick_c (w : World) (A : Option Addr) (c : Nat) (l : List Cd) (hA : RdC w w.heap.size A l) (hl : l.length ≤ 9223372036854775807) (k : Int) (_ : (Lit.int .i64 k).wf = true) :
    Calls Try.prog 3 #[.slice A l.length c, .int .i64 k] w fun e w' => e = .returned (.bool true) ∧ Below w.heap.size w w' := by
  by_cases hbig : 1048576 < l.length
  · go_enter Try.func3, Try.ntmps3
    go_wp2_with fail
    refine (szCodeS_c A l.length c 1048576 _ hl (by omega) (by omega)).mono ?_
    rintro e w' ⟨rfl, rfl⟩
    rw [if_pos (by omega)]
    go_wp2
    go_ret
    exact ⟨rfl, Below.refl _ _⟩
  · have hn : l.length ≤ 1048576 := by omega
    clear hbig
    go_enter Try.func3, Try.ntmps3
    go_wp2_with fail
    refine (szCodeS_c A l.length c 1048576 _ hl (by omega) (by omega)).mono ?_
    rintro e w' ⟨rfl, rfl⟩
    rw [if_neg (by omega)]
    go_wp2_with fail
    refine (toCodeS_c A c l _ hA (by omega)).mono ?_
    rintro e w1 ⟨A1, rfl, o1, b1⟩
    have hB := b1
    go_wp2_with fail
    refine (sCanPick_c A1 _ l k _ o1.rd (by omega)).mono ?_
    rintro e w2 ⟨rfl, b2⟩
    replace hB := below_trans hB (Nat.le_refl _) b2
    clear o1
    go_wp2_with fail
    refine (toCodeS_c A c l _ ((hA.below hB).more hB.size) (by omega)).mono ?_
    rintro e w3 ⟨A3, rfl, o3, b3⟩
    replace hB := below_trans hB (Nat.le_refl _) b3
    go_wp2_with fail
    refine (iCanPick_c A3 _ l k _ o3.rd (by omega)).mono ?_
    rintro e w4 ⟨rfl, b4⟩
    replace hB := below_trans hB (Nat.le_refl _) b4
    have o4 := o3.below b4 (Nat.le_refl _)
    have he : (canPick l k != canPick l k) = false := by simp
    go_wp2_with fail
    refine (toCodeS_c A c l _ ((hA.below hB).more hB.size) (by omega)).mono ?_
    rintro e w5 ⟨A5, rfl, o5, b5⟩
    replace hB := below_trans hB (Nat.le_refl _) b5
    have o6 := o4.below b5 (Nat.le_refl _)
    go_wp2_with fail
    refine (eqCodeS_c A3 A5 _ _ l l _ (OC.rd o6) (OC.rd o5) (by omega) (by omega)).mono ?_
    rintro e w6 ⟨rfl, b6⟩
    replace hB := below_trans hB (Nat.le_refl _) b6
    have hE := Lib.hid (cdsEq_refl l)
    rw [cdsEq_refl]
    go_wp2
    go_ret
    exact ⟨rfl, hB⟩
end Go.Proofs.Ytfpecplpammhiaa
