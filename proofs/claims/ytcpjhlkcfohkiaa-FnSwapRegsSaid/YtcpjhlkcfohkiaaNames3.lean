/- RenameRegs of both packages. -/
import Derived.Test.YtcpjhlkcfohkiaaNames2
import Derived.Laws.Cover3
import Derived.Deep.MidRow
namespace Go.Proofs.Ytcpjhlkcfohkiaa
open Go.RowKit
set_option linter.unusedVariables false
set_option linter.unusedSimpArgs false

theorem orBits_lt4 {xs : List Int} (h : allIn xs 4 = true) : orBits xs < 256 := orBits_lt (by decide) h

def IRRel (t : List Int) (iv mv : Value) : Prop :=
  ∃ k : Nat, k ≤ t.length ∧ iv = .int .i64 k ∧ mv = .int .i64 (orBits (t.take k)) ∧ allIn (t.take k) 4 = true

theorem nameOk_len {t : List Int} (h : t.length ≠ 4) : nameOk t = false := by simp [nameOk, h]
theorem nameOk_bad {t : List Int} (h : allIn t 4 = false) : nameOk t = false := by
  have : maskOfI t 4 = -1 := by simp [maskOfI, h]
  simp [nameOk, this]
theorem nameOk_mask {t : List Int} (hl : t.length = 4) (h : allIn t 4 = true) : nameOk t = (((orBits t : Nat) : Int) == 15) := by
  have e : inR 4 1 8 = true := rfl
  simp [nameOk, maskOfI, h, hl, e]

theorem arr4_of {t : List Int} (h : t.length = 4) : ∀ j : Nat, j < 4 → t[j]? = some (nm t (j : Int)) := fun j hj => nm_get h (by omega)

set_option maxRecDepth 100000 in
set_option maxHeartbeats 4000000 in
theorem iRenameRegs_c (A At : Option Addr) (c ct : Nat) (l : List Cd) (t : List Int) (w : World) (hA : RdC w w.heap.size A l) (hl : l.length ≤ 1000000000) (hT : RdI w w.heap.size At t) (htl : t.length ≤ 1000000000) :
    Calls Try.prog 53 #[.slice A l.length c, .slice At t.length ct] w (RetC w (renameL l t)) := by
  cases hp : pv l with
  | false =>
    have HR := Lib.hid (show renameL l t = [] by simp [renameL, hp])
    go_enter Try.func53, Try.ntmps53
    go_wp2_with fail
    refine (iProgramValid_c A c l w hA hl).mono ?_
    rintro e w1 ⟨rfl, hb⟩
    go_wp2
    go_ret
    rw [HR.out]
    exact RetC.of (OC.nil_ _ _) hb
  | true =>
    by_cases h4 : t.length = 4
    · have HV := Lib.hid (pv_all hp)
      have H4 := Lib.hid h4
      have HP := Lib.hid hp
      have e4 : ((t.length : Int) != 4) = false := by simp [h4]
      have l4 : (t.length : Int) ≤ 4 := by omega
      have l4' : 4 ≤ t.length := by omega
      clear h4
      go_enter Try.func53, Try.ntmps53
      go_wp2_with fail
      refine (iProgramValid_c A c l w hA hl).mono ?_
      rintro e w1 ⟨rfl, hb⟩
      have hT1 := hT.below hb
      go_wp2
      go_loop [18, 5] (fun iv mv => IRRel t iv mv) (fun i _ => t.length - (intOf i).toNat)
      case atStart => exact ⟨0, Nat.zero_le _, rfl, rfl, rfl⟩
      case round =>
        obtain ⟨k, hk, rfl, rfl, hall⟩ := hrel
        by_cases hlt : k < t.length
        · obtain ⟨b, off, x, rfl, hbb, hx, hc⟩ := hT1.at_ hlt
          have hm := orBits_lt4 hall
          have HA := Lib.hid hall
          have HO := Lib.hid (orBits_take hx)
          have HTK := Lib.hid (allIn_take (n := 4) hx)
          have HX := Lib.hid hx
          generalize orBits (t.take k) = m at *
          clear hall hx
          cases hr : inR x 0 3 with
          | false =>
            have HF := Lib.hid (show renameL l t = [] by simp [renameL, nameOk_bad (allIn_bad (n := 4) HX.out hr)])
            go_wp2_with (go_at_call 84; refine (isReg_c _ _).mono ?_; rintro e w' ⟨rfl, rfl⟩)
            go_ret
            rw [HF.out]
            exact RetC.of (OC.nil_ _ _) hb
          | true =>
            obtain ⟨x1, x2⟩ := inR_iff.1 hr
            obtain ⟨y, rfl⟩ := Int.eq_ofNat_of_zero_le x1
            have HR := Lib.hid (show inR (y : Int) 0 (4 - 1) = true from hr)
            have y7 : y ≤ 3 := by omega
            go_wp2_with (go_at_call 84; refine (isReg_c _ _).mono ?_; rintro e w' ⟨rfl, rfl⟩)
            go_round
            case rel =>
              have ho := HO.out
              rw [Int.toNat_natCast] at ho
              exact ⟨k + 1, by omega, by go_num, by rw [ho, or_bit _ _ (by omega) (by omega)], by rw [HTK.out, HA.out, HR.out]; rfl⟩
            case measure => simp [intOf]; omega
        · obtain rfl : k = t.length := by omega
          rw [List.take_length] at hall ⊢
          have HM := Lib.hid (nameOk_mask H4.out hall)
          clear hall
          cases h15 : (((orBits t : Nat) : Int) == 15) with
          | false =>
            have hn : (((orBits t : Nat) : Int) != 15) = true := by simp [bne, h15]
            have HF := Lib.hid (show renameL l t = [] by simp [renameL, HM.out, h15])
            clear h15
            go_wp2
            go_ret
            rw [HF.out]
            exact RetC.of (OC.nil_ _ _) hb
          | true =>
            have hn : (((orBits t : Nat) : Int) != 15) = false := by simp [bne, h15]
            have HF := Lib.hid (show renameL l t = l.map (ren (nm t)) by simp [renameL, HM.out, h15, HP.out])
            clear h15
            obtain ⟨b, off, rfl, hbb, hcell⟩ := hT1.at1 (k := 0) (by omega)
            have hc0 := hcell 0 _ (arr4_of H4.out 0 (by omega))
            have hc1 := hcell 1 _ (arr4_of H4.out 1 (by omega))
            have hc2 := hcell 2 _ (arr4_of H4.out 2 (by omega))
            have hc3 := hcell 3 _ (arr4_of H4.out 3 (by omega))
            rw [Nat.add_zero] at hc0
            have HC := Lib.hid hcell
            clear hcell
            have harr := fun w' : World => run_arrayAt (P := Try.prog) (w := w') 83 3 4 (some ⟨b, off, none⟩) t.length ct Try.underlying83 l4'
            go_wp2_with fail
            refine (renamed_c A c l t w1 ((hA.below hb).more hb.size) hl HV.out).mono ?_
            rintro e w2 h
            obtain ⟨A2, c2, rfl, ho2, hb2⟩ := h.mono hb
            clear harr
            go_wp2
            go_ret
            rw [HF.out]
            exact ⟨A2, c2, by rw [List.length_map]; rfl, ho2, hb2⟩
    · have HR := Lib.hid (show renameL l t = [] by simp [renameL, nameOk_len h4])
      have e4 : ((t.length : Int) != 4) = true := by rw [bne_iff_ne]; omega
      go_enter Try.func53, Try.ntmps53
      go_wp2_with fail
      refine (iProgramValid_c A c l w hA hl).mono ?_
      rintro e w1 ⟨rfl, hb⟩
      go_wp2
      go_ret
      rw [HR.out]
      exact RetC.of (OC.nil_ _ _) hb

def SNRel (w : World) (l : List Cd) (t : List Int) (ov iv : Value) (wr : World) : Prop :=
  ∃ (k : Nat) (A : Option Addr) (n c : Nat), k ≤ l.length ∧ iv = .int .i64 k ∧ ov = .slice A n c ∧ OC wr w.heap.size A n c ((l.take k).map (ren (nm t))) ∧ n = k ∧ Below w.heap.size w wr

set_option maxRecDepth 100000 in
set_option maxHeartbeats 4000000 in
theorem sRenameRegs_c (A At : Option Addr) (c ct : Nat) (l : List Cd) (t : List Int) (w : World) (hA : RdC w w.heap.size A l) (hl : l.length ≤ 1000000000) (hT : RdI w w.heap.size At t) (htl : t.length ≤ 1000000000) :
    Calls Try.prog 54 #[.slice A l.length c, .slice At t.length ct] w (RetC w (renameL l t)) := by
  by_cases h4 : t.length = 4
  · have H4 := Lib.hid h4
    have e4 : ((t.length : Int) != 4) = false := by simp [h4]
    have e15 : maskAllI 4 = 15 := by decide
    cases hok : maskOfI t 4 == 15 with
    | false =>
      have hn : (maskOfI t 4 != 15) = true := by simp [bne, hok]
      have HR := Lib.hid (show renameL l t = [] by simp [renameL, nameOk, hok])
      clear hok h4
      go_enter Try.func54, Try.ntmps54
      go_wp2_with fail
      have hb0 : Below w.heap.size w (w.alloc (.cells #[] 45)) := (by repeat (first | exact Below.refl _ _ | assumption | refine Below.alloc ?_ (by simp <;> omega) _ | refine Below.setCell ?_ (by simp <;> omega) _ | refine Below.drew ?_))
      refine (sMaskOf_c At ct t 4 _ ((hT.below hb0).more hb0.size) htl).mono ?_
      rintro e w1 ⟨rfl, rfl⟩
      go_wp2_with fail
      refine (sMaskAll_c 4 _).mono ?_
      rintro e w1 ⟨rfl, rfl⟩
      go_wp2
      go_ret
      rw [HR.out]
      exact RetC.of (OC.empty_ w _ (Nat.le_refl _)) hb0
    | true =>
      have hn : (maskOfI t 4 != 15) = false := by simp [bne, hok]
      have hnk : nameOk t = true := by simp [nameOk, h4, hok]
      have HN := Lib.hid hnk
      clear hok h4 hnk
      cases hp : pv l with
      | false =>
        have HR := Lib.hid (show renameL l t = [] by simp [renameL, hp])
        go_enter Try.func54, Try.ntmps54
        go_wp2_with fail
        have hb0 : Below w.heap.size w (w.alloc (.cells #[] 45)) := (by repeat (first | exact Below.refl _ _ | assumption | refine Below.alloc ?_ (by simp <;> omega) _ | refine Below.setCell ?_ (by simp <;> omega) _ | refine Below.drew ?_))
        refine (sMaskOf_c At ct t 4 _ ((hT.below hb0).more hb0.size) htl).mono ?_
        rintro e w1 ⟨rfl, rfl⟩
        go_wp2_with fail
        refine (sMaskAll_c 4 _).mono ?_
        rintro e w1 ⟨rfl, rfl⟩
        go_wp2
        go_loopw [5, 6] (fun ov iv wr => ∃ (A1 : Option Addr) (c1 : Nat), iv = .int .i64 0 ∧ ov = .slice A1 0 c1 ∧ OC wr w.heap.size A1 0 c1 [] ∧ Below w.heap.size w wr) (fun _ _ _ => 0)
        case atStart => exact ⟨_, _, rfl, rfl, OC.empty_ w _ (Nat.le_refl _), hb0⟩
        case round =>
          obtain ⟨A1, c1, rfl, rfl, ho, hb⟩ := hrel
          by_cases hlt : 0 < l.length
          · go_wp2_with fail
            refine (sProgramValid_c A c l wr ((hA.below hb).more hb.size) hl).mono ?_
            rintro e w1 ⟨rfl, hb1⟩
            go_wp2
            go_ret
            rw [HR.out]
            exact RetC.of (OR.below ho hb1 (Nat.le_refl _)) (below_trans hb (Nat.le_refl _) hb1)
          · have h0 : ¬ (0 : Int) < (l.length : Int) := by omega
            go_wp2
            go_ret
            rw [HR.out]
            exact RetC.of ho hb
      | true =>
        have HR := Lib.hid (show renameL l t = l.map (ren (nm t)) by simp [renameL, hp, HN.out])
        have HV := Lib.hid (pv_all hp)
        go_enter Try.func54, Try.ntmps54
        go_wp2_with fail
        have hb0 : Below w.heap.size w (w.alloc (.cells #[] 45)) := (by repeat (first | exact Below.refl _ _ | assumption | refine Below.alloc ?_ (by simp <;> omega) _ | refine Below.setCell ?_ (by simp <;> omega) _ | refine Below.drew ?_))
        refine (sMaskOf_c At ct t 4 _ ((hT.below hb0).more hb0.size) htl).mono ?_
        rintro e w1 ⟨rfl, rfl⟩
        go_wp2_with fail
        refine (sMaskAll_c 4 _).mono ?_
        rintro e w1 ⟨rfl, rfl⟩
        go_wp2
        go_loopw [5, 6] (fun ov iv wr => SNRel w l t ov iv wr) (fun _ i _ => l.length - (intOf i).toNat)
        case atStart => exact ⟨0, _, 0, 0, Nat.zero_le _, rfl, rfl, OC.empty_ w _ (Nat.le_refl _), rfl, hb0⟩
        case round =>
          obtain ⟨k, A1, n, c1, hk, rfl, rfl, ho, rfl, hb⟩ := hrel
          by_cases hlt : n < l.length
          · go_wp2_with fail
            refine (sProgramValid_c A c l wr ((hA.below hb).more hb.size) hl).mono ?_
            rintro e w0 ⟨rfl, hb0'⟩
            have ho0 := ho.below hb0' (Nat.le_refl _)
            have hb' := below_trans hb (Nat.le_refl _) hb0'
            obtain ⟨b, off, x, rfl, hbB, hx, c0, c1', c2, c3⟩ := (hA.below hb').at_ hlt
            have hvx := HV.out x (List.mem_of_getElem? hx)
            have HM := Lib.hid (map_take_snoc (ren (nm t)) hx)
            clear hx
            go_wp2_with fail
            refine (l22Map_c x At ct t w0 hvx H4.out ((hT.below hb').more hb'.size)).mono ?_
            rintro e w1 ⟨rfl, hb1⟩
            have ho1 := ho0.below hb1 (Nat.le_refl _)
            have hb2 := below_trans hb' (Nat.le_refl _) hb1
            generalize ren (nm t) x = y at *
            clear hvx c0 c1' c2 c3
            obtain ⟨yo, ya, yb, yc⟩ := y
            unfold Cd.val
            go_wp2_with (at_builtin; refine app_code rfl _ _ rfl w.heap.size _ _ _ _ (ho1.alloc _) rfl ⟨yo, ya, yb, yc⟩ w1.heap.size 1 rfl ?h0 ?h1 ?h2 ?h3 ?hn ?hbase ?_)
            case hn => omega
            case hbase => have := hb2.size; simp; omega
            intro A' c' w3 ho2 hg2
            go_wp2
            go_roundw
            case rel => exact ⟨n + 1, A', n + 1, c', by omega, by go_num, rfl, by rw [HM.out, List.map_take]; exact ho2, rfl, below_app hb2 hb2.size ho1 (Nat.le_refl _) hg2⟩
            case measure => simp [intOf]; omega
          · obtain rfl : n = l.length := by omega
            go_wp2
            go_ret
            rw [HR.out]
            rw [List.take_length] at ho
            exact RetC.of ho hb
  · have HR := Lib.hid (show renameL l t = [] by simp [renameL, nameOk_len h4])
    have e4 : ((t.length : Int) != 4) = true := by rw [bne_iff_ne]; omega
    go_enter Try.func54, Try.ntmps54
    go_wp2
    go_ret
    rw [HR.out]
    exact RetC.of (OC.empty_ w _ (Nat.le_refl _)) (by repeat (first | exact Below.refl _ _ | assumption | refine Below.alloc ?_ (by simp <;> omega) _ | refine Below.setCell ?_ (by simp <;> omega) _ | refine Below.drew ?_))
end Go.Proofs.Ytcpjhlkcfohkiaa
