/- Chains of launches that are drawn. -/
import Derived.Test.YtakeacndmnnbmaaGreatChain
import Derived.Test.YtakeacndmnnbmaaGreatRunD
namespace Go.Proofs.YtakeacndmnnbmaaGreat
open Go.RowKit
set_option linter.unusedVariables false
set_option linter.unusedSimpArgs false

theorem infoProgs : (Tryz.prog.info? 27).map (fun i => (i.zero, i.size, i.bytes)) = some (some (.slice none 0 0), 1, 24) := by kernel_rfl
theorem make_progs (n : Nat) (hn : n ≤ 1000000000000) (w : World) :
    (Instr.makeSlice 44 (.int .i64 (n : Int)) (.int .i64 (n : Int))).run Tryz.prog w = .ok (.slice (some ⟨w.heap.size, 0, none⟩) n n) (w.alloc (.cells (zeroRow (.slice none 0 0) n) 27)) := by
  obtain ⟨i0, hi, hz0, hz1, hz2⟩ := info_parts infoProgs
  have := run_make_rowN (P := Tryz.prog) 44 27 i0 _ Tryz.underlying44 hi hz0 .i64 .i64 n n (Nat.le_refl _) (by rw [hz2]; omega) (by omega) w
  rw [hz1, Nat.mul_one] at this
  exact this

set_option maxRecDepth 100000 in
set_option maxHeartbeats 8000000 in
theorem l20ProgramK_c {w : World} {B g K : Nat} (h : RdS w B g K) (hK : K ≤ 9000000) (m : Nat) (hm : m ≤ 1000) :
    Calls Tryz.prog 51 #[.pointer (some ⟨g, 0, none⟩), .int .i64 m] w (DBlkPost w B g K 200000 500000) := by
  have hgw := h.lt
  have D0 := DSx.start h
  go_enter Tryz.func51, Tryz.ntmps51
  go_upto_region 2 with fail
  go_cut [5, 10] from 8 (fun s5 s10 wx => ∃ (A : Option Addr) (n c v : Nat), s5 = .slice A n c ∧ n ≤ 0 ∧ s10 = .int .i64 v ∧ v < 4 ∧ DSx w B g (K + 1) A n c wx)
  case first =>
    go_wp2_with fail
    refine (pick_i D0.rd (by omega) _ (by decide) (by decide)).mono ?_
    rintro e w1 ⟨v, rfl, hv, hR, hg, hs1, -⟩
    have D1 := D0.pick hR hg
    go_wp2_with fail
    go_meet
    exact ⟨_, _, _, v, rfl, by omega, rfl, by omega, D1⟩
  obtain ⟨A0, n0, c0, v, rfl, hn0, rfl, hv, D1⟩ := hcut
  clear h D0
  go_upto_block 0 with fail
  go_cut [5] from 8 (fun s5 wx => ∃ (A : Option Addr) (n c : Nat), s5 = .slice A n c ∧ n ≤ 3 ∧ DSx w B g (K + 4) A n c wx)
  case first =>
    have hcase : v = 0 ∨ v = 1 ∨ v = 2 ∨ v = 3 := by omega
    rcases hcase with rfl | rfl | rfl | rfl
    · go_wp2_with (at_builtin; refine app_lit D1 rfl _ _ rfl rfl _ _ 2 _ [⟨2, 0, 0, 0⟩, ⟨5, 1, 0, 0⟩] rfl rfl rfl (by omega) ?_)
      intro A2 c2 w2 D2
      go_wp2_with fail
      go_meet
      exact ⟨_, _, _, rfl, by omega, D2.more (by omega)⟩
    · go_wp2_with (at_builtin; refine app_lit D1 rfl _ _ rfl rfl _ _ 3 _ [⟨2, 3, 0, 0⟩, ⟨8, 0, 3, 0⟩, ⟨9, 0, 3, 0⟩] rfl rfl rfl (by omega) ?_)
      intro A2 c2 w2 D2
      go_wp2_with fail
      go_meet
      exact ⟨_, _, _, rfl, by omega, D2.more (by omega)⟩
    · go_wp2_with fail
      refine (pick_i D1.rd (by omega) _ (by decide) (by decide)).mono ?_
      rintro e w2 ⟨v2, rfl, hv2, hR, hg, -, -⟩
      have D2 := D1.pick hR hg
      clear D1 hR hg
      go_wp2_with fail
      refine (pick_i D2.rd (by omega) _ (by decide) (by decide)).mono ?_
      rintro e w3 ⟨v3, rfl, hv3, hR, hg, -, -⟩
      have D3 := D2.pick hR hg
      clear D2 hR hg
      have hw1 : IntKind.i64.wrap (1 + (v3 : Int)) = 1 + (v3 : Int) := IntWalk.i64_in _ (by omega)
      go_wp2_with (at_builtin; refine app_lit D3 rfl _ _ rfl rfl _ _ 1 _ [⟨1, (v2 : Int), 1 + (v3 : Int), 0⟩] rfl rfl rfl (by omega) ?_)
      intro A4 c4 w4 D4
      go_wp2_with fail
      go_meet
      exact ⟨_, _, _, rfl, by omega, D4.more (by omega)⟩
    · go_wp2_with fail
      go_meet
      exact ⟨_, _, _, rfl, by omega, D1.more (by omega)⟩
  case rest =>
    obtain ⟨A, n, c, rfl, hn, D⟩ := hcut
    clear D1
    go_wp2_with fail
    refine (pick_i D.rd (by omega) _ (by decide) (by decide)).mono ?_
    rintro e w2 ⟨v2, rfl, hv2, hR, hg, -, -⟩
    have D2 := D.pick hR hg
    clear D hR hg
    go_upto_block 1 with fail
    go_cut [5, 6] from 8 (fun s5 s6 wx => ∃ (A : Option Addr) (n c : Nat), s5 = .slice A n c ∧ n ≤ 169653 ∧ DSx w B g (K + 412820) A n c wx)
    case first =>
      go_wp2_with fail
      go_loopw [5, 6] (fun ov kv wr => PRel w B g K ov kv wr) (fun _ kv _ => (intOf kv).toNat)
      case atStart => exact ⟨0, v2 + 1, A, n, c, by omega, by go_num, rfl, by omega, by simpa using D2⟩
      case round =>
        clear D2
        obtain ⟨t, j, A3, n3, c3, hjt, rfl, rfl, hn3, D3⟩ := hrel
        by_cases hj : 0 < j
        · go_wp2_with fail
          refine (block0_c _ D3.rd (by omega) (by omega) (by omega)).mono ?_
          rintro e w4 ⟨A4, n4, c4, rfl, hn4, E4⟩
          have D4 := D3.inner E4
          obtain ⟨l4, hl4, rl4, nl4⟩ := E4.reads
          clear D3 E4
          go_wp2_with (at_builtin; refine app_ds D4 rfl _ _ rfl rfl _ _ _ l4 rfl hl4 nl4 rl4 (by omega) ?_)
          intro A5 c5 w5 D5
          clear D4 rl4
          by_cases h34 : (34 : Int) < ((n3 + n4 : Nat) : Int)
          · go_wp2
            go_meet
            exact ⟨_, _, _, rfl, by omega, D5.more (by omega)⟩
          · go_wp2
            go_roundw
            case rel => exact ⟨t + 1, j - 1, _, _, _, by omega, by go_num, rfl, by omega, D5.more (by omega)⟩
            case measure => (simp [intOf] <;> omega)
        · obtain rfl : j = 0 := by omega
          go_wp2
          go_meet
          exact ⟨_, _, _, rfl, by omega, D3.more (by omega)⟩
    case rest =>
      obtain ⟨A4, n4, c4, rfl, hn4, D4⟩ := hcut
      clear D2
      go_wp2_with fail
      refine (odd_c D4.rd (by omega) 3 (by omega)).mono ?_
      rintro e w5 ⟨b, rfl, -, hR, hg, -⟩
      have D5 := D4.pick hR hg
      clear D4 hR hg
      cases b with
      | false =>
        by_cases hn0 : n4 = 0
        · subst hn0
          go_wp2
          go_ret
          exact ⟨_, _, _, rfl, by omega, D5.more (by omega)⟩
        · have hn0b : decide (((n4 : Nat) : Int) > 0) = true := decide_eq_true (by omega)
          go_wp2_with fail
          refine (odd_c D5.rd (by omega) m (by omega)).mono ?_
          rintro e w21 ⟨b21, rfl, -, hR, hg, -⟩
          have D21 := D5.pick hR hg
          clear D5 hR hg
          cases b21 with
          | false =>
            go_wp2
            go_ret
            exact ⟨_, _, _, rfl, by omega, D21.more (by omega)⟩
          | true =>
            go_wp2_with fail
            refine (pick_i D21.rd (by omega) _ (by omega) (by omega)).mono ?_
            rintro e w22 ⟨v22, rfl, hv22, hR, hg, -, -⟩
            have D22 := D21.pick hR hg
            clear D21 hR hg
            go_wp2_with fail
            refine (pick_i D22.rd (by omega) _ (by decide) (by decide)).mono ?_
            rintro e w23 ⟨v23, rfl, hv23, hR, hg, -, -⟩
            have D23 := D22.pick hR hg
            clear D22 hR hg
            have hc5 : v23 = 0 ∨ v23 = 1 ∨ v23 = 2 ∨ v23 = 3 ∨ v23 = 4 := by omega
            rcases hc5 with rfl | rfl | rfl | rfl | rfl
            · obtain ⟨gb, rfl⟩ := D23.addr (by omega)
              have hkI : (v22 : Int) < ((n4 : Nat) : Int) := by omega
              go_wp2_with fail
              refine (l20Code_c D23.rd (by omega) 1 (by omega)).mono ?_
              rintro e w24 ⟨⟨xo, xa, xb, xc⟩, rfl, hR, hg⟩
              dsimp only [Cd.val]
              have D24 := D23.pick hR hg
              have hth := D24.there v22 (by omega)
              have D9 := D24.setAt v22 ⟨xo, xa, xb, xc⟩
              rename_i K1 hK1
              try simp only []
              refine hK1 _ _ (wpList_step (fun K2 hK2 => ?_))
              go_simp
              refine hK2 _ _ (wpList_store_mid rfl _ _ _ rfl _ _ _ rfl rfl hth (by kernel_rfl) (by simp [Value.oneCell']) (wpList_nil ?_))
              go_wp2
              go_ret
              exact ⟨_, _, _, rfl, by omega, D9.more (by omega)⟩
            · skip
              go_wp2_with (at_builtin; refine app_lit D23 rfl _ _ rfl rfl _ _ 1 _ [⟨14, 0, 0, 0⟩] rfl rfl rfl (by omega) ?_)
              intro A25 c25 w25 D25
              go_wp2
              go_ret
              exact ⟨_, _, _, rfl, by omega, D25.more (by omega)⟩
            · skip
              go_wp2_with (at_builtin; refine app_lit D23 rfl _ _ rfl rfl _ _ 1 _ [⟨12, 0, 0, 0⟩] rfl rfl rfl (by omega) ?_)
              intro A26 c26 w26 D26
              go_wp2
              go_ret
              exact ⟨_, _, _, rfl, by omega, D26.more (by omega)⟩
            · obtain ⟨l6, hl6, rl6, nl6⟩ := (D23.alloc (.cells lit8 57)).reads
              have D6 := D23.lit8
              have hs6 := D23.size
              go_wp2_with (at_builtin; refine app_ds D6 rfl _ _ rfl rfl _ _ _ l6 rfl hl6 nl6 rl6 (by omega) ?_)
              intro A7 c7 w7 D7
              go_wp2
              go_ret
              exact ⟨_, _, _, rfl, by omega, D7.more (by omega)⟩
            · go_wp2_with fail
              go_loopw [5] (fun ov wr => DefRel w B g (K + 412830) n4 ov wr) (fun ov _ => 41 - lenOf ov)
              case atStart => exact ⟨0, _, _, _, rfl, by omega, .inl rfl, D23.more (by omega)⟩
              case round =>
                clear D23
                obtain ⟨t, n8, A8, c8, rfl, hn8, ht8, D8⟩ := hrel
                by_cases h40 : (n8 : Int) ≤ 40
                · go_wp2_with fail
                  refine (l20Plain_c D8.rd (by omega)).mono ?_
                  rintro e w9 ⟨⟨xo, xa, xb, xc⟩, rfl, hR, hg⟩
                  dsimp only [Cd.val]
                  have D9 := D8.pick hR hg
                  go_wp2_with (at_builtin; refine app_lit D9 rfl _ _ rfl rfl _ _ 1 _ [⟨xo, xa, xb, xc⟩] rfl rfl rfl (by omega) ?_)
                  intro A10 c10 w10 D10
                  clear D8 D9
                  go_wp2
                  go_roundw
                  case rel => exact ⟨t + 1, _, _, _, rfl, by omega, .inr (by omega), D10.more (by omega)⟩
                  case measure => (simp [lenOf] <;> omega)
                · go_wp2
                  go_ret
                  exact ⟨_, _, _, rfl, by omega, D8.more (by omega)⟩
      | true =>
        by_cases h37 : (n4 : Int) < 37
        · go_wp2_with fail
          refine (pick_i D5.rd (by omega) _ (by decide) (by decide)).mono ?_
          rintro e w6 ⟨v6, rfl, hv6, hR, hg, -, -⟩
          have D6 := D5.pick hR hg
          clear D5 hR hg
          go_wp2_with (at_builtin; refine app_lit D6 rfl _ _ rfl rfl _ _ 2 _ [⟨2, 2, 0, 0⟩, ⟨9, (v6 : Int), 2, 0⟩] rfl rfl rfl (by omega) ?_)
          intro A7 c7 w7 D7
          clear D6
          generalize hn7 : n4 + 2 = n7 at *
          have hn0 : ¬ n7 = 0 := by omega
          · have hn0b : decide (((n7 : Nat) : Int) > 0) = true := decide_eq_true (by omega)
            go_wp2_with fail
            refine (odd_c D7.rd (by omega) m (by omega)).mono ?_
            rintro e w28 ⟨b28, rfl, -, hR, hg, -⟩
            have D28 := D7.pick hR hg
            clear D7 hR hg
            cases b28 with
            | false =>
              go_wp2
              go_ret
              exact ⟨_, _, _, rfl, by omega, D28.more (by omega)⟩
            | true =>
              go_wp2_with fail
              refine (pick_i D28.rd (by omega) _ (by omega) (by omega)).mono ?_
              rintro e w29 ⟨v29, rfl, hv29, hR, hg, -, -⟩
              have D29 := D28.pick hR hg
              clear D28 hR hg
              go_wp2_with fail
              refine (pick_i D29.rd (by omega) _ (by decide) (by decide)).mono ?_
              rintro e w30 ⟨v30, rfl, hv30, hR, hg, -, -⟩
              have D30 := D29.pick hR hg
              clear D29 hR hg
              have hc5 : v30 = 0 ∨ v30 = 1 ∨ v30 = 2 ∨ v30 = 3 ∨ v30 = 4 := by omega
              rcases hc5 with rfl | rfl | rfl | rfl | rfl
              · obtain ⟨gb, rfl⟩ := D30.addr (by omega)
                have hkI : (v29 : Int) < ((n7 : Nat) : Int) := by omega
                go_wp2_with fail
                refine (l20Code_c D30.rd (by omega) 1 (by omega)).mono ?_
                rintro e w31 ⟨⟨xo, xa, xb, xc⟩, rfl, hR, hg⟩
                dsimp only [Cd.val]
                have D31 := D30.pick hR hg
                have hth := D31.there v29 (by omega)
                have D9 := D31.setAt v29 ⟨xo, xa, xb, xc⟩
                rename_i K1 hK1
                try simp only []
                refine hK1 _ _ (wpList_step (fun K2 hK2 => ?_))
                go_simp
                refine hK2 _ _ (wpList_store_mid rfl _ _ _ rfl _ _ _ rfl rfl hth (by kernel_rfl) (by simp [Value.oneCell']) (wpList_nil ?_))
                go_wp2
                go_ret
                exact ⟨_, _, _, rfl, by omega, D9.more (by omega)⟩
              · skip
                go_wp2_with (at_builtin; refine app_lit D30 rfl _ _ rfl rfl _ _ 1 _ [⟨14, 0, 0, 0⟩] rfl rfl rfl (by omega) ?_)
                intro A32 c32 w32 D32
                go_wp2
                go_ret
                exact ⟨_, _, _, rfl, by omega, D32.more (by omega)⟩
              · skip
                go_wp2_with (at_builtin; refine app_lit D30 rfl _ _ rfl rfl _ _ 1 _ [⟨12, 0, 0, 0⟩] rfl rfl rfl (by omega) ?_)
                intro A33 c33 w33 D33
                go_wp2
                go_ret
                exact ⟨_, _, _, rfl, by omega, D33.more (by omega)⟩
              · obtain ⟨l6, hl6, rl6, nl6⟩ := (D30.alloc (.cells lit8 57)).reads
                have D6 := D30.lit8
                have hs6 := D30.size
                go_wp2_with (at_builtin; refine app_ds D6 rfl _ _ rfl rfl _ _ _ l6 rfl hl6 nl6 rl6 (by omega) ?_)
                intro A7 c7 w7 D7
                go_wp2
                go_ret
                exact ⟨_, _, _, rfl, by omega, D7.more (by omega)⟩
              · go_wp2_with fail
                go_loopw [5] (fun ov wr => DefRel w B g (K + 412830) n7 ov wr) (fun ov _ => 41 - lenOf ov)
                case atStart => exact ⟨0, _, _, _, rfl, by omega, .inl rfl, D30.more (by omega)⟩
                case round =>
                  clear D30
                  obtain ⟨t, n8, A8, c8, rfl, hn8, ht8, D8⟩ := hrel
                  by_cases h40 : (n8 : Int) ≤ 40
                  · go_wp2_with fail
                    refine (l20Plain_c D8.rd (by omega)).mono ?_
                    rintro e w9 ⟨⟨xo, xa, xb, xc⟩, rfl, hR, hg⟩
                    dsimp only [Cd.val]
                    have D9 := D8.pick hR hg
                    go_wp2_with (at_builtin; refine app_lit D9 rfl _ _ rfl rfl _ _ 1 _ [⟨xo, xa, xb, xc⟩] rfl rfl rfl (by omega) ?_)
                    intro A10 c10 w10 D10
                    clear D8 D9
                    go_wp2
                    go_roundw
                    case rel => exact ⟨t + 1, _, _, _, rfl, by omega, .inr (by omega), D10.more (by omega)⟩
                    case measure => (simp [lenOf] <;> omega)
                  · go_wp2
                    go_ret
                    exact ⟨_, _, _, rfl, by omega, D8.more (by omega)⟩
        · skip
          have hn0 : ¬ n4 = 0 := by omega
          · have hn0b : decide (((n4 : Nat) : Int) > 0) = true := decide_eq_true (by omega)
            go_wp2_with fail
            refine (odd_c D5.rd (by omega) m (by omega)).mono ?_
            rintro e w35 ⟨b35, rfl, -, hR, hg, -⟩
            have D35 := D5.pick hR hg
            clear D5 hR hg
            cases b35 with
            | false =>
              go_wp2
              go_ret
              exact ⟨_, _, _, rfl, by omega, D35.more (by omega)⟩
            | true =>
              go_wp2_with fail
              refine (pick_i D35.rd (by omega) _ (by omega) (by omega)).mono ?_
              rintro e w36 ⟨v36, rfl, hv36, hR, hg, -, -⟩
              have D36 := D35.pick hR hg
              clear D35 hR hg
              go_wp2_with fail
              refine (pick_i D36.rd (by omega) _ (by decide) (by decide)).mono ?_
              rintro e w37 ⟨v37, rfl, hv37, hR, hg, -, -⟩
              have D37 := D36.pick hR hg
              clear D36 hR hg
              have hc5 : v37 = 0 ∨ v37 = 1 ∨ v37 = 2 ∨ v37 = 3 ∨ v37 = 4 := by omega
              rcases hc5 with rfl | rfl | rfl | rfl | rfl
              · obtain ⟨gb, rfl⟩ := D37.addr (by omega)
                have hkI : (v36 : Int) < ((n4 : Nat) : Int) := by omega
                go_wp2_with fail
                refine (l20Code_c D37.rd (by omega) 1 (by omega)).mono ?_
                rintro e w38 ⟨⟨xo, xa, xb, xc⟩, rfl, hR, hg⟩
                dsimp only [Cd.val]
                have D38 := D37.pick hR hg
                have hth := D38.there v36 (by omega)
                have D9 := D38.setAt v36 ⟨xo, xa, xb, xc⟩
                rename_i K1 hK1
                try simp only []
                refine hK1 _ _ (wpList_step (fun K2 hK2 => ?_))
                go_simp
                refine hK2 _ _ (wpList_store_mid rfl _ _ _ rfl _ _ _ rfl rfl hth (by kernel_rfl) (by simp [Value.oneCell']) (wpList_nil ?_))
                go_wp2
                go_ret
                exact ⟨_, _, _, rfl, by omega, D9.more (by omega)⟩
              · skip
                go_wp2_with (at_builtin; refine app_lit D37 rfl _ _ rfl rfl _ _ 1 _ [⟨14, 0, 0, 0⟩] rfl rfl rfl (by omega) ?_)
                intro A39 c39 w39 D39
                go_wp2
                go_ret
                exact ⟨_, _, _, rfl, by omega, D39.more (by omega)⟩
              · skip
                go_wp2_with (at_builtin; refine app_lit D37 rfl _ _ rfl rfl _ _ 1 _ [⟨12, 0, 0, 0⟩] rfl rfl rfl (by omega) ?_)
                intro A40 c40 w40 D40
                go_wp2
                go_ret
                exact ⟨_, _, _, rfl, by omega, D40.more (by omega)⟩
              · obtain ⟨l6, hl6, rl6, nl6⟩ := (D37.alloc (.cells lit8 57)).reads
                have D6 := D37.lit8
                have hs6 := D37.size
                go_wp2_with (at_builtin; refine app_ds D6 rfl _ _ rfl rfl _ _ _ l6 rfl hl6 nl6 rl6 (by omega) ?_)
                intro A7 c7 w7 D7
                go_wp2
                go_ret
                exact ⟨_, _, _, rfl, by omega, D7.more (by omega)⟩
              · go_wp2_with fail
                go_loopw [5] (fun ov wr => DefRel w B g (K + 412830) n4 ov wr) (fun ov _ => 41 - lenOf ov)
                case atStart => exact ⟨0, _, _, _, rfl, by omega, .inl rfl, D37.more (by omega)⟩
                case round =>
                  clear D37
                  obtain ⟨t, n8, A8, c8, rfl, hn8, ht8, D8⟩ := hrel
                  by_cases h40 : (n8 : Int) ≤ 40
                  · go_wp2_with fail
                    refine (l20Plain_c D8.rd (by omega)).mono ?_
                    rintro e w9 ⟨⟨xo, xa, xb, xc⟩, rfl, hR, hg⟩
                    dsimp only [Cd.val]
                    have D9 := D8.pick hR hg
                    go_wp2_with (at_builtin; refine app_lit D9 rfl _ _ rfl rfl _ _ 1 _ [⟨xo, xa, xb, xc⟩] rfl rfl rfl (by omega) ?_)
                    intro A10 c10 w10 D10
                    clear D8 D9
                    go_wp2
                    go_roundw
                    case rel => exact ⟨t + 1, _, _, _, rfl, by omega, .inr (by omega), D10.more (by omega)⟩
                    case measure => (simp [lenOf] <;> omega)
                  · go_wp2
                    go_ret
                    exact ⟨_, _, _, rfl, by omega, D8.more (by omega)⟩


def DRunO (w : World) (B g K : Nat) (e : Ending) (w' : World) : Prop :=
  ∃ (A : Option Addr) (n c : Nat) (lanes : Int) (Am : Option Addr) (m cm : Nat), e = .returned (.tuple #[.slice A n c, .int .i64 lanes, .slice Am m cm]) ∧ n ≤ 200000 ∧ m ≤ 40 ∧ 0 ≤ lanes ∧ lanes ≤ 9 ∧
    DSx w B g K A n c w' ∧ ∃ l : List Int, OI w' w.heap.size Am m cm l

set_option maxRecDepth 100000 in
set_option maxHeartbeats 8000000 in
theorem l20RunO_c {w : World} {B g K : Nat} (h : RdS w B g K) (hK : K ≤ 1000000) (n : Nat) (hn : n ≤ 1000) :
    Calls Tryz.prog 39 #[.pointer (some ⟨g, 0, none⟩), .int .i64 n] w (DRunO w B g (K + 600000)) := by
  go_enter Tryz.func39, Tryz.ntmps39
  go_wp2_with fail
  refine (l20Program_c h (by omega) n (by omega)).mono ?_
  rintro e w2 ⟨A2, n2, c2, rfl, hn2, D2⟩
  have hgl := h.lt
  clear h
  go_wp2_with fail
  refine (pick_i D2.rd (by omega) _ (by decide) (by decide)).mono ?_
  rintro e w3 ⟨v1, rfl, hv1, R3, g3, -, -⟩
  have D3 := D2.pick R3 g3
  have hq1 : IntKind.i64.wrap (1 + (v1 : Int)) = 1 + (v1 : Int) := IntWalk.i64_in _ (by omega)
  clear D2 R3 g3
  go_wp2_with fail
  refine (odd_c D3.rd (by omega) 9 (by omega)).mono ?_
  rintro e w4 ⟨v2, rfl, -, R4, g4, -⟩
  have D4 := D3.pick R4 g4
  clear D3 R4 g4
  cases v2 with
  | false =>
    go_wp2_with fail
    refine (odd_c D4.rd (by omega) n (by omega)).mono ?_
    rintro e w5 ⟨v3, rfl, -, R5, g5, -⟩
    have D5 := D4.pick R5 g5
    have hgl5 : g < w5.heap.size := R5.lt
    clear D4 R5 g5
    cases v3 with
    | false =>
      go_wp2_with fail
      refine (l20Memory_c D5.rd (by omega) n (by omega)).mono ?_
      rintro e w9 ⟨Am, m, cm, rfl, hm, DM⟩
      have D9 := D5.pick DM.rd DM.gr
      have DM2 := DM
      obtain ⟨l, hl, -⟩ := DM2
      have hl2 := OR.mono hl D5.size
      clear DM D5
      go_wp2
      go_ret3
      exact ⟨A2, n2, c2, _, Am, m, cm, rfl, hn2, hm, by omega, by omega, D9.more (by omega), l, hl2⟩
    | true =>
      have D6 := D5.alloc (.cells #[.int .i64 0, .int .i64 9] 3)
      have hN := heap_alloc_new w5 (.cells #[.int .i64 0, .int .i64 9] 3)
      go_wp2_with fail
      generalize w5.alloc (.cells #[.int .i64 0, .int .i64 9] 3) = w6 at *
      refine (pick_i D6.rd (by omega) _ (by decide) (by decide)).mono ?_
      rintro e w7 ⟨v6, rfl, hv6, R7, g7, -, -⟩
      have D7 := D6.pick R7 g7
      have hN7 := (g7.block _ (lt_of_block hN) (fun e => absurd (Option.some.inj e) (by omega))).trans hN
      obtain ⟨y, hy0, hy9, hy⟩ : ∃ y : Int, 0 ≤ y ∧ y ≤ 9 ∧ w7.cell? ⟨w5.heap.size, v6, none⟩ = some (.int .i64 y) := by
        have e : v6 = 0 ∨ v6 = 1 := by omega
        rcases e with rfl | rfl
        · exact ⟨0, by omega, by omega, cell_of_heap hN7 0⟩
        · exact ⟨9, by omega, by omega, cell_of_heap hN7 1⟩
      clear D5 D6 R7 g7 hN hN7
      go_wp2_with fail
      refine (l20Memory_c D7.rd (by omega) n (by omega)).mono ?_
      rintro e w9 ⟨Am, m, cm, rfl, hm, DM⟩
      have D9 := D7.pick DM.rd DM.gr
      have DM2 := DM
      obtain ⟨l, hl, -⟩ := DM2
      have hl2 := OR.mono hl D7.size
      clear DM D7
      go_wp2
      go_ret3
      exact ⟨A2, n2, c2, _, Am, m, cm, rfl, hn2, hm, by omega, by omega, D9.more (by omega), l, hl2⟩
  | true =>
    go_wp2_with fail
    refine (odd_c D4.rd (by omega) n (by omega)).mono ?_
    rintro e w5 ⟨v3, rfl, -, R5, g5, -⟩
    have D5 := D4.pick R5 g5
    have hgl5 : g < w5.heap.size := R5.lt
    clear D4 R5 g5
    cases v3 with
    | false =>
      go_wp2_with fail
      refine (l20Memory_c D5.rd (by omega) n (by omega)).mono ?_
      rintro e w9 ⟨Am, m, cm, rfl, hm, DM⟩
      have D9 := D5.pick DM.rd DM.gr
      have DM2 := DM
      obtain ⟨l, hl, -⟩ := DM2
      have hl2 := OR.mono hl D5.size
      clear DM D5
      go_wp2
      go_ret3
      exact ⟨A2, n2, c2, _, Am, m, cm, rfl, hn2, hm, by omega, by omega, D9.more (by omega), l, hl2⟩
    | true =>
      have D6 := D5.alloc (.cells #[.int .i64 0, .int .i64 9] 3)
      have hN := heap_alloc_new w5 (.cells #[.int .i64 0, .int .i64 9] 3)
      go_wp2_with fail
      generalize w5.alloc (.cells #[.int .i64 0, .int .i64 9] 3) = w6 at *
      refine (pick_i D6.rd (by omega) _ (by decide) (by decide)).mono ?_
      rintro e w7 ⟨v6, rfl, hv6, R7, g7, -, -⟩
      have D7 := D6.pick R7 g7
      have hN7 := (g7.block _ (lt_of_block hN) (fun e => absurd (Option.some.inj e) (by omega))).trans hN
      obtain ⟨y, hy0, hy9, hy⟩ : ∃ y : Int, 0 ≤ y ∧ y ≤ 9 ∧ w7.cell? ⟨w5.heap.size, v6, none⟩ = some (.int .i64 y) := by
        have e : v6 = 0 ∨ v6 = 1 := by omega
        rcases e with rfl | rfl
        · exact ⟨0, by omega, by omega, cell_of_heap hN7 0⟩
        · exact ⟨9, by omega, by omega, cell_of_heap hN7 1⟩
      clear D5 D6 R7 g7 hN hN7
      go_wp2_with fail
      refine (l20Memory_c D7.rd (by omega) n (by omega)).mono ?_
      rintro e w9 ⟨Am, m, cm, rfl, hm, DM⟩
      have D9 := D7.pick DM.rd DM.gr
      have DM2 := DM
      obtain ⟨l, hl, -⟩ := DM2
      have hl2 := OR.mono hl D7.size
      clear DM D7
      go_wp2
      go_ret3
      exact ⟨A2, n2, c2, _, Am, m, cm, rfl, hn2, hm, by omega, by omega, D9.more (by omega), l, hl2⟩


theorem or_pick {w w' : World} {base e size n c g : Nat} {A : Option Addr} {xs : List Value} (h : OR w base e size A n c xs) (hb : g < base) (hg : w.grownBy w' (some g)) : OR w' base e size A n c xs := by
  refine OR.kept h hg ?_
  cases ho : Value.ownBlock (.slice A n c) with
  | none => exact .inl rfl
  | some k => exact .inr (fun e => by have := (OR.block h k ho).1; have := Option.some.inj e; omega)
theorem or_other {w w' : World} {base e size n c base' e' size' n' c' : Nat} {A A' : Option Addr} {xs xs' : List Value} (h : OR w base e size A n c xs) (h' : OR w base' e' size' A' n' c' xs') (hne : e' ≠ e) (hg : w.grownBy w' (Value.ownBlock (.slice A' n' c'))) : OR w' base e size A n c xs := by
  rcases h.2 with ⟨hv, hn⟩ | ⟨g, cap, cur, hv, _, hgb, _⟩
  · exact ⟨h.1, .inl ⟨hv, hn⟩⟩
  · refine OR.kept h hg (.inr fun e => ?_)
    rw [hv] at e
    have e' : Value.ownBlock (.slice A' n' c') = some g := e.symm
    exact own_ne h' hgb hne e'
theorem grown_own {w0 w w' : World} {g : Nat} {row : Option Nat} (h : w0.grownBy w (some g)) (hg : w.grownBy w' row) (hr : ∀ k, row = some k → w0.heap.size ≤ k) : w0.grownBy w' (some g) :=
  ⟨hg.os.trans h.os, hg.tape.trans h.tape, hg.output.trans h.output, Nat.le_trans h.size hg.size, fun k hk hne => (hg.block k (by have := h.size; omega) (fun e => by have := hr k e.symm; omega)).trans (h.block k hk hne)⟩

/-- Programs that are being drawn. -/
structure DPx (w0 : World) (B g K : Nat) (P : Option Addr) (pc : Nat) (As : Nat → Option Addr) (cs : Nat → Nat) (ps : List (List Cd)) (w : World) : Prop where
  own : OR w w0.heap.size 27 1 P ps.length pc (progV As cs ps)
  inn : ∀ i, i < ps.length → OC w w0.heap.size (As i) (ps.getD i []).length (cs i) (ps.getD i [])
  len : ∀ i, i < ps.length → (ps.getD i []).length ≤ 200000
  rd : RdS w B g K
  gr : w0.grownBy w (some g)
  lt : g < w0.heap.size
theorem progV_snoc (As : Nat → Option Addr) (cs : Nat → Nat) (ps : List (List Cd)) (A : Option Addr) (c : Nat) (l : List Cd) :
    progV (fun i => if i = ps.length then A else As i) (fun i => if i = ps.length then c else cs i) (ps ++ [l]) = progV As cs ps ++ [.slice A l.length c] := by
  unfold progV
  rw [List.length_append, List.length_singleton, List.range_succ, List.map_append]
  congr 1
  · refine List.map_congr_left fun i hi => ?_
    have hi' : i < ps.length := List.mem_range.1 hi
    have e : ¬ i = ps.length := by omega
    simp [e, List.getD_eq_getElem?_getD, List.getElem?_append_left hi']
  · simp [List.getD_eq_getElem?_getD]
section
variable {w0 w w' : World} {B g K pc : Nat} {P : Option Addr} {As : Nat → Option Addr} {cs : Nat → Nat} {ps : List (List Cd)}
theorem DPx.more (h : DPx w0 B g K P pc As cs ps w) {K' : Nat} (hK : K ≤ K') : DPx w0 B g K' P pc As cs ps w := ⟨h.own, h.inn, h.len, h.rd.more hK, h.gr, h.lt⟩
theorem DPx.pick (h : DPx w0 B g K P pc As cs ps w) {K' : Nat} (hR : RdS w' B g K') (hg : w.grownBy w' (some g)) : DPx w0 B g K' P pc As cs ps w' :=
  ⟨or_pick h.own h.lt hg, fun i hi => or_pick (h.inn i hi) h.lt hg, h.len, hR, h.gr.trans hg, h.lt⟩
theorem DPx.alloc (h : DPx w0 B g K P pc As cs ps w) (o : Obj) : DPx w0 B g K P pc As cs ps (w.alloc o) :=
  ⟨OR.alloc h.own o, fun i hi => OR.alloc (h.inn i hi) o, h.len, h.rd.alloc o, h.gr.trans (World.grownBy_alloc _ _ _), h.lt⟩
theorem DPx.start (h : RdS w B g K) : DPx w B g K (some ⟨w.heap.size, 0, none⟩) 0 (fun _ => none) (fun _ => 0) [] (w.alloc (.cells #[] 27)) :=
  ⟨OR.lit w w.heap.size 27 1 0 #[] (Nat.le_refl _) (by omega) rfl, fun i hi => by simp at hi, fun i hi => by simp at hi, h.alloc _, World.grownBy_alloc _ _ _, h.lt⟩
theorem DPx.rdp (h : DPx w0 B g K P pc As cs ps w) : RdP w w.heap.size P As cs ps := ⟨OR.reads h.own, fun i hi => OR.reads (h.inn i hi)⟩
theorem DPx.cap (h : DPx w0 B g K P pc As cs ps w) : ps.length ≤ pc := OR.capR h.own
theorem DPx.snoc (h : DPx w0 B g K P pc As cs ps w) {w3 w5 : World} {K2 n2 c2 pc' : Nat} {A2 P' : Option Addr} (D2 : DSx w B g K2 A2 n2 c2 w3) (hn2 : n2 ≤ 200000)
    (hg : (w3.alloc (.cells #[.slice A2 n2 c2] 27)).grownBy w5 (Value.ownBlock (.slice P ps.length pc)))
    (ho : OR w5 w0.heap.size 27 1 P' (ps.length + 1) pc' (progV As cs ps ++ [.slice A2 n2 c2])) : ∃ (ps' : List (List Cd)) (As' : Nat → Option Addr) (cs' : Nat → Nat), ps'.length = ps.length + 1 ∧ DPx w0 B g K2 P' pc' As' cs' ps' w5 := by
  obtain ⟨l, h1, h2, h3, h4⟩ := D2
  obtain rfl := OC.len h1
  have hD := (h.pick h2 h3).alloc (.cells #[.slice A2 l.length c2] 27)
  have hl1 : (ps ++ [l]).length = ps.length + 1 := by simp
  refine ⟨ps ++ [l], fun i => if i = ps.length then A2 else As i, fun i => if i = ps.length then c2 else cs i, hl1, ?_, fun i hi => ?_, fun i hi => ?_, ?_, ?_, h.lt⟩
  · rw [progV_snoc, hl1]; exact ho
  · rw [hl1] at hi
    by_cases e : i = ps.length
    · subst e
      have e2 : (ps ++ [l]).getD ps.length [] = l := by simp [List.getD_eq_getElem?_getD]
      rw [e2]
      simp only [if_true]
      exact or_other (OR.alloc (OR.mono h1 h.gr.size) _) hD.own (by decide) hg
    · have e2 : (ps ++ [l]).getD i [] = ps.getD i [] := by simp [List.getD_eq_getElem?_getD, List.getElem?_append_left (show i < ps.length by omega)]
      rw [e2]
      simp only [e, if_false]
      exact or_other (hD.inn i (by omega)) hD.own (by decide) hg
  · rw [hl1] at hi
    by_cases e : i = ps.length
    · subst e
      have e2 : (ps ++ [l]).getD ps.length [] = l := by simp [List.getD_eq_getElem?_getD]
      rw [e2]; exact hn2
    · have e2 : (ps ++ [l]).getD i [] = ps.getD i [] := by simp [List.getD_eq_getElem?_getD, List.getElem?_append_left (show i < ps.length by omega)]
      rw [e2]; exact h.len i (by omega)
  · refine hD.rd.off hg fun k e => ?_
    have := (OR.block hD.own k e).1
    have := hD.rd.base
    have := h.lt
    omega
  · exact grown_own hD.gr hg fun k e => (OR.block hD.own k e).1
end
theorem rep_get {n j : Nat} (h : j < n) : (List.replicate n ([] : List Cd)).getD j [] = [] := by
  rw [List.getD_eq_getElem?_getD, List.getElem?_replicate, if_pos h]; rfl
/-- Seven empty programs. -/
theorem progs_zero (w : World) : RdP (w.alloc (.cells (zeroRow (.slice none 0 0) 7) 27)) (w.heap.size + 1) (some ⟨w.heap.size, 0, none⟩) (fun _ => none) (fun _ => 0) (List.replicate 7 []) := by
  have hn := heap_alloc_new w (.cells (zeroRow (.slice none 0 0) 7) 27)
  refine ⟨⟨by simp [progV], fun _ => ⟨w.heap.size, 0, rfl, by omega, fun j u hu => ?_⟩⟩, fun i hi => ?_⟩
  · have hj : j < 7 := by
      have := (List.getElem?_eq_some_iff.1 hu).1
      simpa [progV] using this
    have e : (progV (fun _ => none) (fun _ => 0) (List.replicate 7 ([] : List Cd)))[j]? = some (.slice none 0 0) := by
      rw [progV_get (by rw [List.length_replicate]; exact hj), rep_get hj]
      rfl
    rw [e] at hu
    injection hu with hu
    subst hu
    rw [Nat.zero_add, cell_of_heap hn j]
    have hz : (zeroRow (.slice none 0 0) 7).toList = List.replicate 7 (.slice none 0 0) := toList_madeCells_one _ _
    rw [← Array.getElem?_toList, hz, List.getElem?_replicate, if_pos hj]
  · have hi' : i < 7 := by rw [List.length_replicate] at hi; exact hi
    rw [rep_get hi']
    exact Reads.none_

section
variable {w : World} {ops : Array Oper} {rest : List Oper} {o : Oper} {a : Act} {Q : Exit → Act → World → Prop}
/-- append of one program. -/
theorem app_p (hgd : o.guard = none) (s x : Operand) (ho : o.op = .call { callee := .builtin .append, args := #[s, x], argTypes := #[44, 44] })
    (base : Nat) (A : Option Addr) (n c : Nat) (vs : List Value) (h1 : OR w base 27 1 A n c vs) (hs : a.eval s = .slice A n c)
    (A' : Option Addr) (nn c' gb : Nat) (hx : a.eval x = .slice (some ⟨gb, 0, none⟩) 1 1) (hc : w.cell? ⟨gb, 0, none⟩ = some (.slice A' nn c')) (hn : n + 1 ≤ 1000000000000) (hbase : base ≤ w.heap.size)
    (hK : ∀ A2 c2 w2, OR w2 base 27 1 A2 (n + 1) c2 (vs ++ [.slice A' nn c']) → w.grownBy w2 (Value.ownBlock (.slice A n c)) → wpList Tryz.prog ops Q rest (a.put o.dst (.slice A2 (n + 1) c2)) w2) :
    wpList Tryz.prog ops Q (o :: rest) a w := by
  refine app_row 44 27 _ 1 24 Tryz.underlying44 infoProgs rfl (by decide) (by decide) hgd s x ho base A n c vs h1 hs gb 1 1 [.slice A' nn c'] hx rfl (fun j u hu => ?_) (by intro u hu; simp at hu; subst hu; rfl) (by omega) hbase (fun A2 c2 w2 hr hg => hK A2 c2 w2 hr hg)
  match j, hu with
  | 0, hu => simp at hu; subst hu; exact hc
end

def ChainP (w : World) (e : Ending) (w' : World) : Prop :=
  ∃ (ps : List (List Cd)) (P : Option Addr) (pc : Nat) (As : Nat → Option Addr) (cs : Nat → Nat) (n : Int) (m : List Int) (Am : Option Addr) (cm : Nat), e = .returned (.tuple #[.slice P ps.length pc, .int .i64 n, .slice Am m.length cm]) ∧ ps.length ≤ 7 ∧ m.length ≤ 40 ∧ ps.length ≤ pc ∧
    (∀ i, i < ps.length → (ps.getD i []).length ≤ 200000) ∧ RdP w' w'.heap.size P As cs ps ∧ RdI w' w'.heap.size Am m ∧ Below w.heap.size w w'
def DCRel (w1 w2 : World) (B g : Nat) (Am : Option Addr) (m cm : Nat) (l : List Int) (ov kv : Value) (wr : World) : Prop :=
  ∃ (k : Nat) (ps : List (List Cd)) (P : Option Addr) (pc : Nat) (As : Nat → Option Addr) (cs : Nat → Nat), kv = .int .i64 k ∧ ov = .slice P ps.length pc ∧ ps.length + k ≤ 3 ∧ DPx w2 B g (2600000 - 600000 * k) P pc As cs ps wr ∧ OI wr w1.heap.size Am m cm l

set_option maxRecDepth 100000 in
set_option maxHeartbeats 8000000 in
theorem drawLaunchChain_c (A : Option Addr) (c : Nat) (bs : List Int) (w : World) (hA : Reads w w.heap.size 1 A bs.length (bs.map (.int .u8))) (hb : ∀ x ∈ bs, 0 ≤ x ∧ x ≤ 255) (hl : bs.length ≤ 9223372036854775807) (hcap : bs.length ≤ c) :
    Calls Tryz.prog 25 #[.slice A bs.length c] w (ChainP w) := by
  have hmk : ∀ w : World, (Instr.makeSlice 44 (.int .i64 7) (.int .i64 7)).run Tryz.prog w = .ok (.slice (some ⟨w.heap.size, 0, none⟩) 7 7) (w.alloc (.cells (zeroRow (.slice none 0 0) 7) 27)) := make_progs 7 (by omega)
  go_enter Tryz.func25, Tryz.ntmps25
  go_wp2_with fail
  refine (l20Open_c A c bs w hA hb hl hcap).mono ?_
  rintro e w1 ⟨rfl, hR, hB, hs⟩
  have hgl1 : w.heap.size < w1.heap.size := hR.lt
  go_wp2_with fail
  refine (l20RunO_c hR (by omega) 20 (by omega)).mono ?_
  rintro e w2 ⟨A2, n2, c2, lanes, Am, m, cm, rfl, hn2, hm, h0, h9, D, l, hOI⟩
  have hR2 := D.rd
  have hg12 := D.gr
  have hs12 := hg12.size
  have hlm : l.length = m := OI.len hOI
  subst hlm
  clear D hR
  have DP := DPx.start hR2
  have hOI2 : OI (w2.alloc (.cells #[] 27)) w1.heap.size Am l.length cm l := OR.alloc hOI _
  clear hOI hR2
  go_wp2_with fail
  generalize w2.alloc (.cells #[] 27) = w3 at *
  refine (pick_i DP.rd (by omega) _ (by decide) (by decide)).mono ?_
  rintro e w4 ⟨v, rfl, hv, R4, g4, -, -⟩
  have DP4 := DP.pick R4 g4
  have hOI4 : OI w4 w1.heap.size Am l.length cm l := or_pick hOI2 hgl1 g4
  clear DP R4 g4 hOI2
  obtain ⟨pb, hpb⟩ : ∃ p, (some ⟨w2.heap.size, 0, none⟩ : Option Addr) = p := ⟨_, rfl⟩
  rw [hpb] at DP4 ⊢
  clear hpb
  go_wp2
  go_loopw [9, 10] (fun ov kv wr => DCRel w1 w2 w.heap.size w.heap.size Am l.length cm l ov kv wr) (fun _ kv _ => (intOf kv).toNat)
  case atStart => exact ⟨v, [], pb, 0, _, _, rfl, rfl, by simp; omega, DP4.more (by omega), hOI4⟩
  case round =>
    clear DP4 hOI4
    obtain ⟨k, ps, P, pc, As, cs, rfl, rfl, hpk, DP, hO⟩ := hrel
    by_cases hlt : 0 < k
    · have hkI : (0 : Int) < (k : Int) := by omega
      have hq : IntKind.i64.wrap ((k : Int) - 1) = ((k - 1 : Nat) : Int) := by rw [IntWalk.i64_in _ (by omega)]; omega
      go_wp2_with fail
      refine (l20ProgramK_c DP.rd (by omega) 20 (by omega)).mono ?_
      rintro e w5 ⟨A5, n5, c5, rfl, hn5, D5⟩
      have hO5 : OI w5 w1.heap.size Am l.length cm l := or_pick hO hgl1 D5.gr
      have hown := Lib.hid ((DP.pick D5.rd D5.gr).alloc (.cells #[.slice A5 n5 c5] 27)).own
      have hsz := (DP.gr.trans D5.gr).size
      go_wp2_with (at_builtin; refine app_p rfl _ _ rfl w2.heap.size P ps.length pc _ hown.out rfl A5 n5 c5 w5.heap.size rfl ?hc ?hn ?hb ?_)
      case hc => simp [go_sem]
      case hn => omega
      case hb => simp; omega
      intro P' pc' w6 ho6 hg6
      have hO6 : OI w6 w1.heap.size Am l.length cm l := or_other (OR.alloc hO5 _) hown.out (by decide) hg6
      obtain ⟨ps', As', cs', hl', DP'⟩ := DP.snoc D5 hn5 hg6 ho6
      rw [← hl']
      clear hown hg6 ho6 DP D5 hO hO5
      go_wp2
      go_roundw
      case rel => exact ⟨k - 1, ps', P', pc', As', cs', rfl, rfl, by omega, DP'.more (by omega), hO6⟩
      case measure => (simp [intOf] <;> omega)
    · obtain rfl : k = 0 := by omega
      go_wp2_with fail
      refine (odd_c DP.rd (by omega) 20 (by omega)).mono ?_
      rintro e w5 ⟨v5, rfl, -, R5, g5, -⟩
      have DP5 := DP.pick R5 g5
      have hO5 : OI w5 w1.heap.size Am l.length cm l := or_pick hO hgl1 g5
      have hbel : Below w.heap.size w w5 := hB.grown (hg12.trans DP5.gr) hB.size (fun k e => by cases e; exact Nat.le_refl _)
      have hcap5 := DP5.cap
      have hrp := Lib.hid DP5.rdp
      have hlen5 := Lib.hid DP5.len
      have hM5 := Lib.hid (OI.rd hO5)
      clear DP R5 g5 hO hO5 DP5
      cases v5 with
      | false =>
        go_wp2
        go_ret3
        exact ⟨ps, P, pc, As, cs, lanes, l, Am, cm, rfl, by omega, hm, hcap5, hlen5.out, hrp.out, hM5.out, hbel⟩
      | true =>
        have hz := Lib.hid (progs_zero w5)
        have hb7 := Below.alloc (Below.refl w5.heap.size w5) (Nat.le_refl _) (.cells (zeroRow (.slice none 0 0) 7) 27)
        have hM7 := Lib.hid ((hM5.out.below hb7).more hb7.size)
        have hbel7 := below_trans hbel (Nat.le_refl _) hb7
        go_wp2
        go_ret3
        exact ⟨List.replicate 7 [], _, 7, _, _, lanes, l, Am, cm, rfl, by simp, hm, by simp, fun i hi => by rw [List.length_replicate] at hi; rw [rep_get hi]; simp, (by have h := hz.out; simpa using h), hM7.out, hbel7⟩
end Go.Proofs.YtakeacndmnnbmaaGreat
