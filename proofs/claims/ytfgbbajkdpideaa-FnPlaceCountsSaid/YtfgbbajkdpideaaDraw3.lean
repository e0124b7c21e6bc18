/- Drawn blocks: l20Block. -/
import Derived.Test.YtfgbbajkdpideaaDraw
namespace Go.Proofs.Ytfgbbajkdpideaa
open Go.RowKit
set_option linter.unusedVariables false
set_option linter.unusedSimpArgs false

def DBlkPost (w0 : World) (B g K LN PN : Nat) (e : Ending) (w' : World) : Prop := ∃ (A : Option Addr) (n c : Nat), e = .returned (.slice A n c) ∧ n ≤ LN ∧ DSx w0 B g (K + PN) A n c w'
def DBRel (w0 : World) (B g K LR PR : Nat) (ov kv : Value) (wr : World) : Prop :=
  ∃ (t j : Nat) (A : Option Addr) (n c : Nat), j + t ≤ 6 ∧ kv = .int .i64 j ∧ ov = .slice A n c ∧ n ≤ t * LR ∧ DSx w0 B g (K + 1 + t * PR) A n c wr

set_option maxRecDepth 100000 in
set_option maxHeartbeats 8000000 in
theorem block_step {LN PN KR KB : Nat} (hKB : KB + 20000000 ≤ KR) (hKR : KR ≤ 90000000) (hLN : LN ≤ 100000) (hPN : PN ≤ 1000000) (d : Nat) (hd : d ≤ 3)
    (hrec : d < 3 → ∀ (w : World) (B g K : Nat) (room : Int), RdS w B g K → K ≤ KR → -1000000 ≤ room → room ≤ 1000000 →
      Calls Try.prog 35 #[.pointer (some ⟨g, 0, none⟩), .int .i64 room, .int .i64 ((d : Int) + 1)] w (DBlkPost w B g K LN PN))
    {w : World} {B g K : Nat} (room : Int) (h : RdS w B g K) (hK : K ≤ KB) (hr1 : -1000000 ≤ room) (hr2 : room ≤ 1000000) :
    Calls Try.prog 35 #[.pointer (some ⟨g, 0, none⟩), .int .i64 room, .int .i64 d] w (DBlkPost w B g K (6 * (5 + 2 * LN)) (1 + 6 * (12 + 2 * PN))) := by
  have hgw := h.lt
  have HREC := Lib.hid hrec
  obtain ⟨LR, hLR⟩ : ∃ LR, 5 + 2 * LN = LR := ⟨_, rfl⟩
  obtain ⟨PR, hPR⟩ : ∃ PR, 12 + 2 * PN = PR := ⟨_, rfl⟩
  rw [hLR, hPR]
  have D0 := DSx.start h
  clear hrec
  go_enter Try.func35, Try.ntmps35
  go_wp2_with fail
  have hs0 : w.heap.size < (w.alloc (.cells #[] 50)).heap.size := by simp
  refine (pick_i D0.rd (by omega) _ (by decide) (by decide)).mono ?_
  rintro e w1 ⟨v0, rfl, hv0, hR1, hg1, hs1, -⟩
  have D1 := D0.pick hR1 hg1
  clear h D0
  generalize hz0 : w.heap.size = z0 at *
  go_wp2
  go_loopw [7, 8] (fun ov kv wr => DBRel w B g K LR PR ov kv wr) (fun _ kv _ => (intOf kv).toNat)
  case atStart => exact ⟨0, v0 + 1, some ⟨z0, 0, none⟩, 0, 0, by omega, by go_num, rfl, by omega, by simpa using D1⟩
  case round =>
    clear D1 hs0 hs1 hg1 hR1
    obtain ⟨t, j, A, n, c, hjt, rfl, rfl, hn, D⟩ := hrel
    have et : (t + 1) * LR = t * LR + LR := Nat.succ_mul t LR
    have ep : (t + 1) * PR = t * PR + PR := Nat.succ_mul t PR
    have bt : t * LR ≤ 6 * LR := Nat.mul_le_mul_right _ (by omega)
    have bp : t * PR ≤ 6 * PR := Nat.mul_le_mul_right _ (by omega)
    have HE := Lib.hid et
    have HP := Lib.hid ep
    generalize t * LR = tl at *
    generalize t * PR = tp at *
    clear et ep
    by_cases hj : 0 < j
    · by_cases hrm : (n : Int) < room
      · go_wp2_with fail
        refine (pick_i D.rd (by omega) _ (by decide) (by decide)).mono ?_
        rintro e w2 ⟨v, rfl, hv, hR2, hg2, -, -⟩
        have D2 := D.pick hR2 hg2
        clear D hR2 hg2
        have hcase : v = 0 ∨ v = 1 ∨ v = 2 ∨ 3 ≤ v := by omega
        rcases hcase with rfl | rfl | rfl | h3
        · by_cases hg3 : d < 3
          · by_cases hrm2 : (6 : Int) ≤ room - n
            · skip
              go_wp2_with fail
              refine (pick_i D2.rd (by omega) _ (by decide) (by decide)).mono ?_
              rintro e w11 ⟨v11, rfl, hv11, hR, hg, -, -⟩
              have D11 := D2.pick hR hg
              clear D2 hR hg
              go_wp2_with (at_builtin; refine app_lit D11 rfl _ _ rfl rfl _ _ 1 _ [⟨11, (v11 : Int), 0, 0⟩] rfl rfl rfl (by omega) ?_)
              intro A12 c12 w12 D12
              clear D11
              go_wp2_with fail
              refine (pick_i D12.rd (by omega) _ (by decide) (by decide)).mono ?_
              rintro e w13 ⟨v13, rfl, hv13, hR, hg, -, -⟩
              have D13 := D12.pick hR hg
              clear D12 hR hg
              by_cases hv30 : v13 = 0
              · subst hv30
                go_wp2_with fail
                refine (pick_i D13.rd (by omega) _ (by decide) (by decide)).mono ?_
                rintro e w14 ⟨v14, rfl, hv14, hR, hg, -, -⟩
                have D14 := D13.pick hR hg
                clear D13 hR hg
                go_wp2_with fail
                refine (pick_i D14.rd (by omega) _ (by decide) (by decide)).mono ?_
                rintro e w15 ⟨v15, rfl, hv15, hR, hg, -, -⟩
                have D15 := D14.pick hR hg
                clear D14 hR hg
                go_wp2_with (at_builtin; refine app_lit D15 rfl _ _ rfl rfl _ _ 1 _ [⟨5, (v14 : Int), (v15 : Int), 0⟩] rfl rfl rfl (by omega) ?_)
                intro A16 c16 w16 D16
                clear D15
                by_cases hrm4 : (4 : Int) ≤ room - ((n + 1 + 1 : Nat) : Int)
                · skip
                  go_wp2_with fail
                  refine (pick_i D16.rd (by omega) _ (by decide) (by decide)).mono ?_
                  rintro e w17 ⟨v17, rfl, hv17, hR, hg, -, -⟩
                  have D17 := D16.pick hR hg
                  clear D16 hR hg
                  by_cases hv0 : v17 = 0
                  · subst hv0
                    go_wp2_with (at_builtin; refine app_lit D17 rfl _ _ rfl rfl _ _ 1 _ [⟨12, 0, 0, 0⟩] rfl rfl rfl (by omega) ?_)
                    intro A18 c18 w18 D18
                    clear D17
                    go_upto_region 15 with fail
                    go_cut [7] from 13 to 148 (fun s7 wx => ∃ (A' : Option Addr) (n' c' : Nat), s7 = .slice A' n' c' ∧ n' ≤ (n + 1 + 1 + 1) + LN ∧ DSx w B g (K + 1 + tp + 6 + PN) A' n' c' wx)
                    case first =>
                      go_wp2_with fail
                      all_goals
                        refine (HREC.out (by omega) _ B g _ _ D18.rd (by omega) (by omega) (by omega)).mono ?_
                        rintro e w19 ⟨A19, n19, c19, rfl, hn19, E19⟩
                        have D19 := D18.inner E19
                        obtain ⟨l19, hl19, rl19, nl19⟩ := E19.reads
                        clear E19
                        go_wp2_with (at_builtin; refine app_ds D19 rfl _ _ rfl rfl _ _ _ l19 rfl hl19 nl19 rl19 (by omega) ?_)
                        intro A20 c20 w20 D20
                        go_wp2_with fail
                        go_meet
                        exact ⟨_, _, _, rfl, by omega, D20.more (by omega)⟩
                    obtain ⟨A21, n21, c21, rfl, hn21, D21⟩ := hcut
                    clear D18
                    generalize wc = w21 at *
                    go_wp2_with (at_builtin; refine app_lit D21 rfl _ _ rfl rfl _ _ 1 _ [⟨14, 0, 0, 0⟩] rfl rfl rfl (by omega) ?_)
                    intro A22 c22 w22 D22
                    clear D21
                    go_wp2
                    go_roundw
                    case rel => exact ⟨t + 1, j - 1, _, _, _, by omega, by go_num, rfl, by have := HE.out; omega, by obtain ⟨l, q1, q2, q3, q4⟩ := D22; exact ⟨l, q1, q2.more (by have := HP.out; omega), q3, q4⟩⟩
                    case measure => (simp [intOf] <;> omega)
                  · have hvb : ((v17 : Int) == 0) = false := by rw [beq_eq_false_iff_ne]; omega
                    go_wp2_with (at_builtin; refine app_lit D17 rfl _ _ rfl rfl _ _ 1 _ [⟨14, 0, 0, 0⟩] rfl rfl rfl (by omega) ?_)
                    intro A23 c23 w23 D23
                    clear D17
                    go_wp2
                    go_roundw
                    case rel => exact ⟨t + 1, j - 1, _, _, _, by omega, by go_num, rfl, by have := HE.out; omega, by obtain ⟨l, q1, q2, q3, q4⟩ := D23; exact ⟨l, q1, q2.more (by have := HP.out; omega), q3, q4⟩⟩
                    case measure => (simp [intOf] <;> omega)
                · exfalso
                  omega
              · have hvb : ((v13 : Int) == 0) = false := by rw [beq_eq_false_iff_ne]; omega
                go_upto_region 12 with fail
                go_cut [7] from 13 to 148 (fun s7 wx => ∃ (A' : Option Addr) (n' c' : Nat), s7 = .slice A' n' c' ∧ n' ≤ (n + 1) + LN ∧ DSx w B g (K + 1 + tp + 3 + PN) A' n' c' wx)
                case first =>
                  go_wp2_with fail
                  all_goals
                    refine (HREC.out (by omega) _ B g _ _ D13.rd (by omega) (by omega) (by omega)).mono ?_
                    rintro e w24 ⟨A24, n24, c24, rfl, hn24, E24⟩
                    have D24 := D13.inner E24
                    obtain ⟨l24, hl24, rl24, nl24⟩ := E24.reads
                    clear E24
                    go_wp2_with (at_builtin; refine app_ds D24 rfl _ _ rfl rfl _ _ _ l24 rfl hl24 nl24 rl24 (by omega) ?_)
                    intro A25 c25 w25 D25
                    go_wp2_with fail
                    go_meet
                    exact ⟨_, _, _, rfl, by omega, D25.more (by omega)⟩
                obtain ⟨A26, n26, c26, rfl, hn26, D26⟩ := hcut
                clear D13
                generalize wc = w26 at *
                by_cases hrm4 : (4 : Int) ≤ room - ((n26 : Nat) : Int)
                · skip
                  go_wp2_with fail
                  refine (pick_i D26.rd (by omega) _ (by decide) (by decide)).mono ?_
                  rintro e w27 ⟨v27, rfl, hv27, hR, hg, -, -⟩
                  have D27 := D26.pick hR hg
                  clear D26 hR hg
                  by_cases hv0 : v27 = 0
                  · subst hv0
                    go_wp2_with (at_builtin; refine app_lit D27 rfl _ _ rfl rfl _ _ 1 _ [⟨12, 0, 0, 0⟩] rfl rfl rfl (by omega) ?_)
                    intro A28 c28 w28 D28
                    clear D27
                    go_upto_region 15 with fail
                    go_cut [7] from 13 to 148 (fun s7 wx => ∃ (A' : Option Addr) (n' c' : Nat), s7 = .slice A' n' c' ∧ n' ≤ (n26 + 1) + LN ∧ DSx w B g (K + 1 + tp + 4 + PN + PN) A' n' c' wx)
                    case first =>
                      go_wp2_with fail
                      all_goals
                        refine (HREC.out (by omega) _ B g _ _ D28.rd (by omega) (by omega) (by omega)).mono ?_
                        rintro e w29 ⟨A29, n29, c29, rfl, hn29, E29⟩
                        have D29 := D28.inner E29
                        obtain ⟨l29, hl29, rl29, nl29⟩ := E29.reads
                        clear E29
                        go_wp2_with (at_builtin; refine app_ds D29 rfl _ _ rfl rfl _ _ _ l29 rfl hl29 nl29 rl29 (by omega) ?_)
                        intro A30 c30 w30 D30
                        go_wp2_with fail
                        go_meet
                        exact ⟨_, _, _, rfl, by omega, D30.more (by omega)⟩
                    obtain ⟨A31, n31, c31, rfl, hn31, D31⟩ := hcut
                    clear D28
                    generalize wc = w31 at *
                    go_wp2_with (at_builtin; refine app_lit D31 rfl _ _ rfl rfl _ _ 1 _ [⟨14, 0, 0, 0⟩] rfl rfl rfl (by omega) ?_)
                    intro A32 c32 w32 D32
                    clear D31
                    go_wp2
                    go_roundw
                    case rel => exact ⟨t + 1, j - 1, _, _, _, by omega, by go_num, rfl, by have := HE.out; omega, by obtain ⟨l, q1, q2, q3, q4⟩ := D32; exact ⟨l, q1, q2.more (by have := HP.out; omega), q3, q4⟩⟩
                    case measure => (simp [intOf] <;> omega)
                  · have hvb : ((v27 : Int) == 0) = false := by rw [beq_eq_false_iff_ne]; omega
                    go_wp2_with (at_builtin; refine app_lit D27 rfl _ _ rfl rfl _ _ 1 _ [⟨14, 0, 0, 0⟩] rfl rfl rfl (by omega) ?_)
                    intro A33 c33 w33 D33
                    clear D27
                    go_wp2
                    go_roundw
                    case rel => exact ⟨t + 1, j - 1, _, _, _, by omega, by go_num, rfl, by have := HE.out; omega, by obtain ⟨l, q1, q2, q3, q4⟩ := D33; exact ⟨l, q1, q2.more (by have := HP.out; omega), q3, q4⟩⟩
                    case measure => (simp [intOf] <;> omega)
                · skip
                  go_wp2_with (at_builtin; refine app_lit D26 rfl _ _ rfl rfl _ _ 1 _ [⟨14, 0, 0, 0⟩] rfl rfl rfl (by omega) ?_)
                  intro A34 c34 w34 D34
                  clear D26
                  go_wp2
                  go_roundw
                  case rel => exact ⟨t + 1, j - 1, _, _, _, by omega, by go_num, rfl, by have := HE.out; omega, by obtain ⟨l, q1, q2, q3, q4⟩ := D34; exact ⟨l, q1, q2.more (by have := HP.out; omega), q3, q4⟩⟩
                  case measure => (simp [intOf] <;> omega)
            · skip
              go_wp2
              go_roundw
              case rel => exact ⟨t + 1, j - 1, _, _, _, by omega, by go_num, rfl, by have := HE.out; omega, by obtain ⟨l, q1, q2, q3, q4⟩ := D2; exact ⟨l, q1, q2.more (by have := HP.out; omega), q3, q4⟩⟩
              case measure => (simp [intOf] <;> omega)
          · skip
            go_wp2
            go_roundw
            case rel => exact ⟨t + 1, j - 1, _, _, _, by omega, by go_num, rfl, by have := HE.out; omega, by obtain ⟨l, q1, q2, q3, q4⟩ := D2; exact ⟨l, q1, q2.more (by have := HP.out; omega), q3, q4⟩⟩
            case measure => (simp [intOf] <;> omega)
        · by_cases hg3 : d < 3
          · by_cases hrm2 : (5 : Int) ≤ room - n
            · skip
              go_wp2_with fail
              refine (pick_i D2.rd (by omega) _ (by decide) (by decide)).mono ?_
              rintro e w35 ⟨v35, rfl, hv35, hR, hg, -, -⟩
              have D35 := D2.pick hR hg
              clear D2 hR hg
              go_wp2_with fail
              refine (pick_i D35.rd (by omega) _ (by decide) (by decide)).mono ?_
              rintro e w36 ⟨v36, rfl, hv36, hR, hg, -, -⟩
              have D36 := D35.pick hR hg
              clear D35 hR hg
              have hw1 : IntKind.i64.wrap (1 + (v36 : Int)) = 1 + (v36 : Int) := IntWalk.i64_in _ (by omega)
              go_wp2_with (at_builtin; refine app_lit D36 rfl _ _ rfl rfl _ _ 1 _ [⟨13, (v35 : Int), 1 + (v36 : Int), 0⟩] rfl rfl rfl (by omega) ?_)
              intro A37 c37 w37 D37
              clear D36
              go_upto_region 20 with fail
              go_cut [7] from 13 to 148 (fun s7 wx => ∃ (A' : Option Addr) (n' c' : Nat), s7 = .slice A' n' c' ∧ n' ≤ (n + 1) + LN ∧ DSx w B g (K + 1 + tp + 3 + PN) A' n' c' wx)
              case first =>
                go_wp2_with fail
                all_goals
                  refine (HREC.out (by omega) _ B g _ _ D37.rd (by omega) (by omega) (by omega)).mono ?_
                  rintro e w38 ⟨A38, n38, c38, rfl, hn38, E38⟩
                  have D38 := D37.inner E38
                  obtain ⟨l38, hl38, rl38, nl38⟩ := E38.reads
                  clear E38
                  go_wp2_with (at_builtin; refine app_ds D38 rfl _ _ rfl rfl _ _ _ l38 rfl hl38 nl38 rl38 (by omega) ?_)
                  intro A39 c39 w39 D39
                  go_wp2_with fail
                  go_meet
                  exact ⟨_, _, _, rfl, by omega, D39.more (by omega)⟩
              obtain ⟨A40, n40, c40, rfl, hn40, D40⟩ := hcut
              clear D37
              generalize wc = w40 at *
              go_wp2_with (at_builtin; refine app_lit D40 rfl _ _ rfl rfl _ _ 1 _ [⟨14, 0, 0, 0⟩] rfl rfl rfl (by omega) ?_)
              intro A41 c41 w41 D41
              clear D40
              go_wp2
              go_roundw
              case rel => exact ⟨t + 1, j - 1, _, _, _, by omega, by go_num, rfl, by have := HE.out; omega, by obtain ⟨l, q1, q2, q3, q4⟩ := D41; exact ⟨l, q1, q2.more (by have := HP.out; omega), q3, q4⟩⟩
              case measure => (simp [intOf] <;> omega)
            · skip
              go_wp2
              go_roundw
              case rel => exact ⟨t + 1, j - 1, _, _, _, by omega, by go_num, rfl, by have := HE.out; omega, by obtain ⟨l, q1, q2, q3, q4⟩ := D2; exact ⟨l, q1, q2.more (by have := HP.out; omega), q3, q4⟩⟩
              case measure => (simp [intOf] <;> omega)
          · skip
            go_wp2
            go_roundw
            case rel => exact ⟨t + 1, j - 1, _, _, _, by omega, by go_num, rfl, by have := HE.out; omega, by obtain ⟨l, q1, q2, q3, q4⟩ := D2; exact ⟨l, q1, q2.more (by have := HP.out; omega), q3, q4⟩⟩
            case measure => (simp [intOf] <;> omega)
        · by_cases hd0 : d = 0
          · have hdb : ((d : Int) == 0) = true := by rw [hd0]; rfl
            go_wp2_with (at_builtin; refine app_lit D2 rfl _ _ rfl rfl _ _ 1 _ [⟨10, 0, 0, 0⟩] rfl rfl rfl (by omega) ?_)
            intro A42 c42 w42 D42
            clear D2
            go_wp2
            subst hd0
            have e0 : ((0 : Nat) : Int) = 0 := rfl
            simp only [e0]
            go_roundw
            case rel => exact ⟨t + 1, j - 1, _, _, _, by omega, by go_num, rfl, by have := HE.out; omega, by obtain ⟨l, q1, q2, q3, q4⟩ := D42; exact ⟨l, q1, q2.more (by have := HP.out; omega), q3, q4⟩⟩
            case measure => (simp [intOf] <;> omega)
          · have hdb : ((d : Int) == 0) = false := by rw [beq_eq_false_iff_ne]; omega
            go_wp2_with fail
            refine (pick_i D2.rd (by omega) _ (by decide) (by decide)).mono ?_
            rintro e w43 ⟨v43, rfl, hv43, hR, hg, -, -⟩
            have D43 := D2.pick hR hg
            clear D2 hR hg
            by_cases hv0 : v43 = 0
            · subst hv0
              go_wp2_with (at_builtin; refine app_lit D43 rfl _ _ rfl rfl _ _ 1 _ [⟨10, 0, 0, 0⟩] rfl rfl rfl (by omega) ?_)
              intro A44 c44 w44 D44
              clear D43
              go_wp2
              go_roundw
              case rel => exact ⟨t + 1, j - 1, _, _, _, by omega, by go_num, rfl, by have := HE.out; omega, by obtain ⟨l, q1, q2, q3, q4⟩ := D44; exact ⟨l, q1, q2.more (by have := HP.out; omega), q3, q4⟩⟩
              case measure => (simp [intOf] <;> omega)
            · have hvb : ((v43 : Int) == 0) = false := by rw [beq_eq_false_iff_ne]; omega
              go_wp2
              go_roundw
              case rel => exact ⟨t + 1, j - 1, _, _, _, by omega, by go_num, rfl, by have := HE.out; omega, by obtain ⟨l, q1, q2, q3, q4⟩ := D43; exact ⟨l, q1, q2.more (by have := HP.out; omega), q3, q4⟩⟩
              case measure => (simp [intOf] <;> omega)
        · have b0 : ((v : Int) == 0) = false := by rw [beq_eq_false_iff_ne]; omega
          have b1 : ((v : Int) == 1) = false := by rw [beq_eq_false_iff_ne]; omega
          have b2 : ((v : Int) == 2) = false := by rw [beq_eq_false_iff_ne]; omega
          go_wp2_with fail
          refine (l20Plain_c D2.rd (by omega)).mono ?_
          rintro e w3 ⟨⟨xo, xa, xb, xc⟩, rfl, hR, hg⟩
          dsimp only [Cd.val]
          have D3 := D2.pick hR hg
          clear D2 hR hg
          go_wp2_with (at_builtin; refine app_lit D3 rfl _ _ rfl rfl _ _ 1 _ [⟨xo, xa, xb, xc⟩] rfl rfl rfl (by omega) ?_)
          intro A45 c45 w45 D45
          clear D3
          go_wp2
          go_roundw
          case rel => exact ⟨t + 1, j - 1, _, _, _, by omega, by go_num, rfl, by have := HE.out; omega, by obtain ⟨l, q1, q2, q3, q4⟩ := D45; exact ⟨l, q1, q2.more (by have := HP.out; omega), q3, q4⟩⟩
          case measure => (simp [intOf] <;> omega)
      · go_wp2
        go_ret
        refine ⟨_, _, _, rfl, by omega, ?_⟩
        obtain ⟨l, q1, q2, q3, q4⟩ := D
        exact ⟨l, q1, q2.more (by omega), q3, q4⟩
    · obtain rfl : j = 0 := by omega
      go_wp2
      go_ret
      refine ⟨_, _, _, rfl, by omega, ?_⟩
      obtain ⟨l, q1, q2, q3, q4⟩ := D
      exact ⟨l, q1, q2.more (by omega), q3, q4⟩
end Go.Proofs.Ytfgbbajkdpideaa
