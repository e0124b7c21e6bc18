/- Optimize of both packages. -/
import Derived.Test.YtakeacndmnnbmaaGreatPicks
import Derived.Test.YtakeacndmnnbmaaGreatSem
import Derived.Test.YtakeacndmnnbmaaGreatNames1
import Derived.Test.YtakeacndmnnbmaaGreatLive5
import Derived.Test.YtakeacndmnnbmaaGreatLive10
namespace Go.Proofs.YtakeacndmnnbmaaGreat
open Go.RowKit
set_option linter.unusedVariables false
set_option linter.unusedSimpArgs false

noncomputable def optL (l : List Cd) : List Cd := packL (dropDeadL (usePicksL l))

theorem usePicksL_ok {l : List Cd} (h : pv l = true) : pv (usePicksL l) = true := by
  unfold usePicksL
  rw [if_pos h]
  exact (tree_picked h).2.2
theorem usePicksL_40 (l : List Cd) : (usePicksL l).length ≤ 40 := by
  cases h : pv l with
  | true => exact (pv_iff.1 (usePicksL_ok h)).1
  | false => simp [usePicksL, h]
theorem optL_len (l : List Cd) : (optL l).length ≤ 40 := by
  have h1 := packL_len (dropDeadL (usePicksL l))
  have h2 := dropDeadL_len (usePicksL l)
  unfold optL
  omega
theorem optL_bad {l : List Cd} (h : pv l = false) : optL l = [] := by
  have h1 : usePicksL l = [] := by simp [usePicksL, h]
  have h2 : dropDeadL [] = [] := List.eq_nil_of_length_eq_zero (by
    unfold dropDeadL
    split
    · rfl
    · rfl)
  have := packL_len []
  unfold optL
  rw [h1, h2]
  exact List.eq_nil_of_length_eq_zero (by simpa using this)

theorem sOptimize_c (A : Option Addr) (c : Nat) (l : List Cd) (w : World) (hA : RdC w w.heap.size A l) (hl : l.length ≤ 1000000000) :
    Calls Tryz.prog 33 #[.slice A l.length c] w (RetC w (optL l)) := by
  have h1 := usePicksL_40 l
  have h2 := dropDeadL_len (usePicksL l)
  go_enter Tryz.func33, Tryz.ntmps33
  go_wp2_with fail
  refine (sUsePicks_c A c l w hA hl).mono ?_
  rintro e w1 ⟨A1, c1, rfl, o1, b1⟩
  go_wp2_with fail
  refine (sDropDead_c A1 c1 _ w1 o1.rd (by omega) o1.nilc).mono ?_
  rintro e w2 ⟨A2, c2, rfl, o2, b2⟩
  go_wp2_with fail
  refine (sPackRegs_c A2 c2 _ w2 o2.rd (by omega)).mono ?_
  intro e w3 h
  obtain ⟨A3, c3, rfl, o3, b3⟩ := h.mono (below_trans b1 (Nat.le_refl _) b2)
  go_wp2
  go_ret
  exact ⟨A3, c3, rfl, o3, b3⟩

theorem iOptimize_c (A : Option Addr) (c : Nat) (l : List Cd) (w : World) (hA : RdC w w.heap.size A l) (hl : l.length ≤ 1000000000) :
    Calls Tryz.prog 22 #[.slice A l.length c] w (RetC w (optL l)) := by
  cases hp : pv l with
  | false =>
    have HO := Lib.hid (optL_bad hp)
    go_enter Tryz.func22, Tryz.ntmps22
    go_wp2_with fail
    refine (iProgramValid_c A c l w hA hl).mono ?_
    rintro e w1 ⟨rfl, hb⟩
    rw [hp]
    go_wp2
    go_ret
    rw [HO.out]
    exact RetC.of (OC.nil_ _ _) hb
  | true =>
    have hu : usePicksL l = picked l := by simp [usePicksL, hp]
    have HO := Lib.hid (show optL l = packL (dropDeadL (picked l)) by rw [optL, hu])
    have h1 := usePicksL_40 l
    rw [hu] at h1
    have h2 := dropDeadL_len (picked l)
    have HP1 := Lib.hid (tree_picked hp).2.2
    have HP2 := Lib.hid (dropDeadL_ok HP1.out)
    clear hu
    go_enter Tryz.func22, Tryz.ntmps22
    go_wp2_with fail
    refine (iProgramValid_c A c l w hA hl).mono ?_
    rintro e w0 ⟨rfl, hb⟩
    rw [hp]
    clear hp
    go_wp2_with fail
    refine (iusePicks_c A c l w0 ((hA.below hb).more hb.size) hl).mono ?_
    rintro e w1 ⟨A1, c1, rfl, o1, b1⟩
    go_wp2_with fail
    refine (idropDead_c A1 c1 _ w1 o1.rd HP1.out o1.nilc).mono ?_
    rintro e w2 ⟨A2, c2, rfl, o2, b2⟩
    go_wp2_with fail
    refine (ipackRegs_c A2 c2 _ w2 o2.rd (by omega) HP2.out).mono ?_
    intro e w3 h
    obtain ⟨A3, c3, rfl, o3, b3⟩ := h.mono (below_trans hb (Nat.le_refl _) (below_trans b1 (Nat.le_refl _) b2))
    go_wp2
    go_ret
    rw [HO.out]
    exact ⟨A3, c3, rfl, o3, b3⟩
end Go.Proofs.YtakeacndmnnbmaaGreat
