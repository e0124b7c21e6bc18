/- CanPick: the law. -/
import Derived.Test.YtcpjhlkcfohkiaaPicks2
import Derived.Test.YtcpjhlkcfohkiaaMarks
import Derived.Test.YtcpjhlkcfohkiaaHelp2
namespace Go.Proofs.Ytcpjhlkcfohkiaa
open Go.RowKit
set_option linter.unusedVariables false
set_option linter.unusedSimpArgs false

theorem iCanPick_c (A : Option Addr) (c : Nat) (l : List Cd) (k : Int) (w : World) (hA : RdC w w.heap.size A l) (hl : l.length ≤ 1000000000) :
    Calls Try.prog 31 #[.slice A l.length c, .int .i64 k] w fun e w' => e = .returned (.bool (canPick l k)) ∧ Below w.heap.size w w' := by
  cases ho : (pv l && (inR k 0 (l.length - 1) && opB (cdAt l k.toNat))) with
  | false =>
    have hf : canPick l k = false := by
      cases hc : canPick l k with
      | false => rfl
      | true =>
        exfalso
        simp only [canPick, Bool.and_eq_true, inR_iff] at hc
        obtain ⟨h1, h2, h3⟩ := hc
        have : inR k 0 (l.length - 1) = true := by rw [inR_iff]; omega
        simp only [h1, this, Bool.true_and] at ho
        simp only [pickB, Bool.and_eq_true, beq_iff_eq] at h3
        have h4 := h3.1.1
        rw [cdAt, opAt] at *
        split at h4 <;> simp_all [opB]
    have HF := Lib.hid hf
    clear hf
    go_enter Try.func31, Try.ntmps31
    go_wp2_with fail
    refine (opens_c A c l k w hA hl).mono ?_
    rintro e w1 ⟨rfl, hb⟩
    go_wp2
    go_ret
    exact ⟨retb (by rw [HF.out]), hb⟩
  | true =>
    have ho' := ho
    simp only [Bool.and_eq_true, inR_iff] at ho'
    obtain ⟨hp, ⟨h1, h2⟩, hop⟩ := ho'
    obtain ⟨n, rfl⟩ := Int.eq_ofNat_of_zero_le h1
    have hn : n ≤ l.length := by omega
    have HP := Lib.hid hp
    clear hp hop h1
    go_enter Try.func31, Try.ntmps31
    go_wp2_with fail
    refine (opens_c A c l n w hA hl).mono ?_
    rintro e w1 ⟨rfl, hb⟩
    rw [ho]
    have HO := Lib.hid ho
    clear ho
    go_wp2_with fail
    refine (iCanPick0_c A c n l w1 ((hA.below hb).more hb.size) hl hn).mono ?_
    rintro e w2 ⟨rfl, hb2⟩
    go_wp2
    go_ret
    exact ⟨retb (by rw [canPick_nat, HP.out]; rfl), below_trans hb (Nat.le_refl _) hb2⟩