/- Drawn programs: l20Program. -/
import Derived.Test.YtfgbbajkdpideaaDraw3
import Derived.Test.YtfgbbajkdpideaaDraw4
namespace Go.Proofs.Ytfgbbajkdpideaa
open Go.RowKit
set_option linter.unusedVariables false
set_option linter.unusedSimpArgs false

theorem cdsCells_set : ∀ (l : List Cd) (k : Nat) (y : Cd), cdsCells (l.set k y) = ((((cdsCells l).set (k * 4) (.int .i64 y.op)).set (k * 4 + 1) (.int .i64 y.a)).set (k * 4 + 2) (.int .i64 y.b)).set (k * 4 + 3) (.int .i64 y.c)
  | [], k, y => by simp [cdsCells]
  | x :: l, 0, y => by simp [cdsCells, cdCells]
  | x :: l, k + 1, y => by
    have e : ∀ l : List Cd, ∀ z : Cd, cdsCells (z :: l) = [.int .i64 z.op, .int .i64 z.a, .int .i64 z.b, .int .i64 z.c] ++ cdsCells l := fun l z => rfl
    rw [List.set_cons_succ, e, cdsCells_set l k y, e, show (k + 1) * 4 = k * 4 + 4 by omega]
    simp
theorem DSx.setAt {w0 w : World} {B g K gb n c : Nat} (D : DSx w0 B g K (some ⟨gb, 0, none⟩) n c w) (k : Nat) (y : Cd) : DSx w0 B g K (some ⟨gb, 0, none⟩) n c (w.setCells gb (k * 4) [.int .i64 y.op, .int .i64 y.a, .int .i64 y.b, .int .i64 y.c]) := by
  obtain ⟨l, h1, h2, h3, h4⟩ := D
  have hb := (OR.base_le h1).1
  have hBg := h2.base
  have st : ∀ (w : World) (j : Nat) (v : Value), RdS w B g K → w0.grownBy w (some g) → RdS (w.setCell ⟨gb, j, none⟩ v) B g K ∧ w0.grownBy (w.setCell ⟨gb, j, none⟩ v) (some g) := fun w j v hR hG =>
    ⟨hR.off (grown_cell1 w gb j v) (fun k e => by cases e; exact ⟨by omega, by omega⟩), grown_then hG (grown_cell1 w gb j v) (by omega)⟩
  have a1 := (OR.at0 h1).2.2 (k * 4) (.int .i64 y.op)
  have a2 := (OR.at0 a1).2.2 (k * 4 + 1) (.int .i64 y.a)
  have a3 := (OR.at0 a2).2.2 (k * 4 + 2) (.int .i64 y.b)
  have a4 := (OR.at0 a3).2.2 (k * 4 + 3) (.int .i64 y.c)
  obtain ⟨r1, g1⟩ := st _ (k * 4) (.int .i64 y.op) h2 h3
  obtain ⟨r2, g2⟩ := st _ (k * 4 + 1) (.int .i64 y.a) r1 g1
  obtain ⟨r3, g3⟩ := st _ (k * 4 + 2) (.int .i64 y.b) r2 g2
  obtain ⟨r4, g4⟩ := st _ (k * 4 + 3) (.int .i64 y.c) r3 g3
  refine ⟨l.set k y, ?_, r4, g4, h4⟩
  unfold OC
  rw [cdsCells_set]
  exact a4
theorem DSx.there {w0 w : World} {B g K gb n c : Nat} (D : DSx w0 B g K (some ⟨gb, 0, none⟩) n c w) (k : Nat) (hk : k < n) : w.there gb (k * 4) 4 := by
  obtain ⟨l, h1, h2, h3, h4⟩ := D
  intro j hj
  obtain ⟨u, hu⟩ := OR.some_cell h1 (k * 4 + j) (by omega)
  exact ⟨by rw [hu]; rfl, (OR.at0 h1).2.1 _⟩
theorem DSx.addr {w0 w : World} {B g K n c : Nat} {A : Option Addr} (D : DSx w0 B g K A n c w) (hn : 0 < n) : ∃ gb, A = some ⟨gb, 0, none⟩ := by
  obtain ⟨l, h1, -⟩ := D
  obtain ⟨gb, h, -⟩ := OR.at_ h1 hn
  exact ⟨gb, h⟩

abbrev lit8 : Array Value := #[.int .i64 11, .int .i64 0, .int .i64 0, .int .i64 0, .int .i64 11, .int .i64 0, .int .i64 0, .int .i64 0, .int .i64 11, .int .i64 0, .int .i64 0, .int .i64 0, .int .i64 11, .int .i64 0, .int .i64 0, .int .i64 0, .int .i64 14, .int .i64 0, .int .i64 0, .int .i64 0, .int .i64 14, .int .i64 0, .int .i64 0, .int .i64 0, .int .i64 14, .int .i64 0, .int .i64 0, .int .i64 0, .int .i64 14, .int .i64 0, .int .i64 0, .int .i64 0]
theorem DSx.lit8 {w0 w : World} {B g K n c : Nat} {A : Option Addr} (D : DSx w0 B g K A n c w) : DSx w0 B g K (some ⟨w.heap.size, 0, none⟩) 8 8 (w.alloc (.cells lit8 50)) := by
  have hs := D.size
  obtain ⟨l, h1, h2, h3, h4⟩ := D
  have := OR.lit w w0.heap.size 50 4 8 Go.Proofs.Ytfgbbajkdpideaa.lit8 hs (by omega) rfl
  exact ⟨[⟨11, 0, 0, 0⟩, ⟨11, 0, 0, 0⟩, ⟨11, 0, 0, 0⟩, ⟨11, 0, 0, 0⟩, ⟨14, 0, 0, 0⟩, ⟨14, 0, 0, 0⟩, ⟨14, 0, 0, 0⟩, ⟨14, 0, 0, 0⟩], this, h2.alloc _, h3.trans (World.grownBy_alloc _ _ _), h4⟩
theorem block3_c {w : World} {B g K : Nat} (room : Int) (h : RdS w B g K) (hK : K ≤ 70000000) (hr1 : -1000000 ≤ room) (hr2 : room ≤ 1000000) :
    Calls Try.prog 35 #[.pointer (some ⟨g, 0, none⟩), .int .i64 room, .int .i64 3] w (DBlkPost w B g K 30 73) :=
  block_step (KB := 70000000) (KR := 90000000) (by decide) (by decide) (LN := 0) (PN := 0) (by decide) (by decide) 3 (by decide) (fun h => absurd h (by decide)) room h hK hr1 hr2
theorem block2_c {w : World} {B g K : Nat} (room : Int) (h : RdS w B g K) (hK : K ≤ 50000000) (hr1 : -1000000 ≤ room) (hr2 : room ≤ 1000000) :
    Calls Try.prog 35 #[.pointer (some ⟨g, 0, none⟩), .int .i64 room, .int .i64 2] w (DBlkPost w B g K 390 949) :=
  block_step (KB := 50000000) (KR := 70000000) (by decide) (by decide) (LN := 30) (PN := 73) (by decide) (by decide) 2 (by decide) (fun _ w B g K room h hK h1 h2 => block3_c room h hK h1 h2) room h hK hr1 hr2
theorem block1_c {w : World} {B g K : Nat} (room : Int) (h : RdS w B g K) (hK : K ≤ 30000000) (hr1 : -1000000 ≤ room) (hr2 : room ≤ 1000000) :
    Calls Try.prog 35 #[.pointer (some ⟨g, 0, none⟩), .int .i64 room, .int .i64 1] w (DBlkPost w B g K 4710 11461) :=
  block_step (KB := 30000000) (KR := 50000000) (by decide) (by decide) (LN := 390) (PN := 949) (by decide) (by decide) 1 (by decide) (fun _ w B g K room h hK h1 h2 => block2_c room h hK h1 h2) room h hK hr1 hr2
theorem block0_c {w : World} {B g K : Nat} (room : Int) (h : RdS w B g K) (hK : K ≤ 10000000) (hr1 : -1000000 ≤ room) (hr2 : room ≤ 1000000) :
    Calls Try.prog 35 #[.pointer (some ⟨g, 0, none⟩), .int .i64 room, .int .i64 0] w (DBlkPost w B g K 56550 137605) :=
  block_step (KB := 10000000) (KR := 30000000) (by decide) (by decide) (LN := 4710) (PN := 11461) (by decide) (by decide) 0 (by decide) (fun _ w B g K room h hK h1 h2 => block1_c room h hK h1 h2) room h hK hr1 hr2

def PRel (w0 : World) (B g K : Nat) (ov kv : Value) (wr : World) : Prop :=
  ∃ (t j : Nat) (A : Option Addr) (n c : Nat), j + t ≤ 3 ∧ kv = .int .i64 j ∧ ov = .slice A n c ∧ n ≤ 3 + t * 56550 ∧ DSx w0 B g (K + 5 + t * 137605) A n c wr
def lenOf : Value → Nat
  | .slice _ n _ => n
  | _ => 0
def DefRel (w0 : World) (B g K n0 : Nat) (ov : Value) (wr : World) : Prop :=
  ∃ (t n : Nat) (A : Option Addr) (c : Nat), ov = .slice A n c ∧ (n0 + t ≤ n ∧ n ≤ n0 + t) ∧ (t = 0 ∨ n ≤ 41) ∧ DSx w0 B g (K + 8 * t) A n c wr

set_option maxRecDepth 100000 in
set_option maxHeartbeats 8000000 in
theorem l20Program_c {w : World} {B g K : Nat} (h : RdS w B g K) (hK : K ≤ 1000000) (m : Nat) (hm : m ≤ 1000) :
    Calls Try.prog 19 #[.pointer (some ⟨g, 0, none⟩), .int .i64 m] w (DBlkPost w B g K 200000 500000) := by
  have hgw := h.lt
  have D0 := DSx.start h
  go_enter Try.func19, Try.ntmps19
  go_upto_region 2 with fail
  go_cut [5, 10] from 8 (fun s5 s10 wx => ∃ (A : Option Addr) (n c v : Nat), s5 = .slice A n c ∧ n ≤ 0 ∧ s10 = .int .i64 v ∧ v < 4 ∧ DSx w B g (K + 1) A n c wx)
  case first =>
    go_wp2_with fail
    refine (pick_i D0.rd (by omega) _ (by decide) (by decide)).mono ?_
    rintro e w1 ⟨v, rfl, hv, hR, hg, hs1, -⟩
    have D1 := D0.pick hR hg
    go_wp2_with fail
    go_meet
    exact ⟨_, _, _, v, rfl, by omega, rfl, by omega, D1⟩
  obtain ⟨A0, n0, c0, v, rfl, hn0, rfl, hv, D1⟩ := hcut
  clear h D0
  go_upto_block 0 with fail
  go_cut [5] from 8 (fun s5 wx => ∃ (A : Option Addr) (n c : Nat), s5 = .slice A n c ∧ n ≤ 3 ∧ DSx w B g (K + 4) A n c wx)
  case first =>
    have hcase : v = 0 ∨ v = 1 ∨ v = 2 ∨ v = 3 := by omega
    rcases hcase with rfl | rfl | rfl | rfl
    · go_wp2_with (at_builtin; refine app_lit D1 rfl _ _ rfl rfl _ _ 2 _ [⟨2, 0, 0, 0⟩, ⟨5, 1, 0, 0⟩] rfl rfl rfl (by omega) ?_)
      intro A2 c2 w2 D2
      go_wp2_with fail
      go_meet
      exact ⟨_, _, _, rfl, by omega, D2.more (by omega)⟩
    · go_wp2_with (at_builtin; refine app_lit D1 rfl _ _ rfl rfl _ _ 3 _ [⟨2, 3, 0, 0⟩, ⟨8, 0, 3, 0⟩, ⟨9, 0, 3, 0⟩] rfl rfl rfl (by omega) ?_)
      intro A2 c2 w2 D2
      go_wp2_with fail
      go_meet
      exact ⟨_, _, _, rfl, by omega, D2.more (by omega)⟩
    · go_wp2_with fail
      refine (pick_i D1.rd (by omega) _ (by decide) (by decide)).mono ?_
      rintro e w2 ⟨v2, rfl, hv2, hR, hg, -, -⟩
      have D2 := D1.pick hR hg
      clear D1 hR hg
      go_wp2_with fail
      refine (pick_i D2.rd (by omega) _ (by decide) (by decide)).mono ?_
      rintro e w3 ⟨v3, rfl, hv3, hR, hg, -, -⟩
      have D3 := D2.pick hR hg
      clear D2 hR hg
      have hw1 : IntKind.i64.wrap (1 + (v3 : Int)) = 1 + (v3 : Int) := IntWalk.i64_in _ (by omega)
      go_wp2_with (at_builtin; refine app_lit D3 rfl _ _ rfl rfl _ _ 1 _ [⟨1, (v2 : Int), 1 + (v3 : Int), 0⟩] rfl rfl rfl (by omega) ?_)
      intro A4 c4 w4 D4
      go_wp2_with fail
      go_meet
      exact ⟨_, _, _, rfl, by omega, D4.more (by omega)⟩
    · go_wp2_with fail
      go_meet
      exact ⟨_, _, _, rfl, by omega, D1.more (by omega)⟩
  case rest =>
    obtain ⟨A, n, c, rfl, hn, D⟩ := hcut
    clear D1
    go_wp2_with fail
    refine (pick_i D.rd (by omega) _ (by decide) (by decide)).mono ?_
    rintro e w2 ⟨v2, rfl, hv2, hR, hg, -, -⟩
    have D2 := D.pick hR hg
    clear D hR hg
    go_upto_block 1 with fail
    go_cut [5, 6] from 8 (fun s5 s6 wx => ∃ (A : Option Addr) (n c : Nat), s5 = .slice A n c ∧ n ≤ 169653 ∧ DSx w B g (K + 412820) A n c wx)
    case first =>
      go_wp2_with fail
      go_loopw [5, 6] (fun ov kv wr => PRel w B g K ov kv wr) (fun _ kv _ => (intOf kv).toNat)
      case atStart => exact ⟨0, v2 + 1, A, n, c, by omega, by go_num, rfl, by omega, by simpa using D2⟩
      case round =>
        clear D2
        obtain ⟨t, j, A3, n3, c3, hjt, rfl, rfl, hn3, D3⟩ := hrel
        by_cases hj : 0 < j
        · go_wp2_with fail
          refine (block0_c _ D3.rd (by omega) (by omega) (by omega)).mono ?_
          rintro e w4 ⟨A4, n4, c4, rfl, hn4, E4⟩
          have D4 := D3.inner E4
          obtain ⟨l4, hl4, rl4, nl4⟩ := E4.reads
          clear D3 E4
          go_wp2_with (at_builtin; refine app_ds D4 rfl _ _ rfl rfl _ _ _ l4 rfl hl4 nl4 rl4 (by omega) ?_)
          intro A5 c5 w5 D5
          clear D4 rl4
          by_cases h34 : (34 : Int) < ((n3 + n4 : Nat) : Int)
          · go_wp2
            go_meet
            exact ⟨_, _, _, rfl, by omega, D5.more (by omega)⟩
          · go_wp2
            go_roundw
            case rel => exact ⟨t + 1, j - 1, _, _, _, by omega, by go_num, rfl, by omega, D5.more (by omega)⟩
            case measure => (simp [intOf] <;> omega)
        · obtain rfl : j = 0 := by omega
          go_wp2
          go_meet
          exact ⟨_, _, _, rfl, by omega, D3.more (by omega)⟩
    case rest =>
      obtain ⟨A4, n4, c4, rfl, hn4, D4⟩ := hcut
      clear D2
      go_wp2_with fail
      refine (odd_c D4.rd (by omega) 3 (by omega)).mono ?_
      rintro e w5 ⟨b, rfl, -, hR, hg, -⟩
      have D5 := D4.pick hR hg
      clear D4 hR hg
      cases b with
      | false =>
        by_cases hn0 : n4 = 0
        · subst hn0
          go_wp2
          go_ret
          exact ⟨_, _, _, rfl, by omega, D5.more (by omega)⟩
        · have hn0b : decide (((n4 : Nat) : Int) > 0) = true := decide_eq_true (by omega)
          go_wp2_with fail
          refine (odd_c D5.rd (by omega) m (by omega)).mono ?_
          rintro e w21 ⟨b21, rfl, -, hR, hg, -⟩
          have D21 := D5.pick hR hg
          clear D5 hR hg
          cases b21 with
          | false =>
            go_wp2
            go_ret
            exact ⟨_, _, _, rfl, by omega, D21.more (by omega)⟩
          | true =>
            go_wp2_with fail
            refine (pick_i D21.rd (by omega) _ (by omega) (by omega)).mono ?_
            rintro e w22 ⟨v22, rfl, hv22, hR, hg, -, -⟩
            have D22 := D21.pick hR hg
            clear D21 hR hg
            go_wp2_with fail
            refine (pick_i D22.rd (by omega) _ (by decide) (by decide)).mono ?_
            rintro e w23 ⟨v23, rfl, hv23, hR, hg, -, -⟩
            have D23 := D22.pick hR hg
            clear D22 hR hg
            have hc5 : v23 = 0 ∨ v23 = 1 ∨ v23 = 2 ∨ v23 = 3 ∨ v23 = 4 := by omega
            rcases hc5 with rfl | rfl | rfl | rfl | rfl
            · obtain ⟨gb, rfl⟩ := D23.addr (by omega)
              have hkI : (v22 : Int) < ((n4 : Nat) : Int) := by omega
              go_wp2_with fail
              refine (l20Code_c D23.rd (by omega) 1 (by omega)).mono ?_
              rintro e w24 ⟨⟨xo, xa, xb, xc⟩, rfl, hR, hg⟩
              dsimp only [Cd.val]
              have D24 := D23.pick hR hg
              have hth := D24.there v22 (by omega)
              have D9 := D24.setAt v22 ⟨xo, xa, xb, xc⟩
              rename_i K1 hK1
              try simp only []
              refine hK1 _ _ (wpList_step (fun K2 hK2 => ?_))
              go_simp
              refine hK2 _ _ (wpList_store_mid rfl _ _ _ rfl _ _ _ rfl rfl hth (by kernel_rfl) (by simp [Value.oneCell']) (wpList_nil ?_))
              go_wp2
              go_ret
              exact ⟨_, _, _, rfl, by omega, D9.more (by omega)⟩
            · skip
              go_wp2_with (at_builtin; refine app_lit D23 rfl _ _ rfl rfl _ _ 1 _ [⟨14, 0, 0, 0⟩] rfl rfl rfl (by omega) ?_)
              intro A25 c25 w25 D25
              go_wp2
              go_ret
              exact ⟨_, _, _, rfl, by omega, D25.more (by omega)⟩
            · skip
              go_wp2_with (at_builtin; refine app_lit D23 rfl _ _ rfl rfl _ _ 1 _ [⟨12, 0, 0, 0⟩] rfl rfl rfl (by omega) ?_)
              intro A26 c26 w26 D26
              go_wp2
              go_ret
              exact ⟨_, _, _, rfl, by omega, D26.more (by omega)⟩
            · obtain ⟨l6, hl6, rl6, nl6⟩ := (D23.alloc (.cells lit8 50)).reads
              have D6 := D23.lit8
              have hs6 := D23.size
              go_wp2_with (at_builtin; refine app_ds D6 rfl _ _ rfl rfl _ _ _ l6 rfl hl6 nl6 rl6 (by omega) ?_)
              intro A7 c7 w7 D7
              go_wp2
              go_ret
              exact ⟨_, _, _, rfl, by omega, D7.more (by omega)⟩
            · go_wp2_with fail
              go_loopw [5] (fun ov wr => DefRel w B g (K + 412830) n4 ov wr) (fun ov _ => 41 - lenOf ov)
              case atStart => exact ⟨0, _, _, _, rfl, by omega, .inl rfl, D23.more (by omega)⟩
              case round =>
                clear D23
                obtain ⟨t, n8, A8, c8, rfl, hn8, ht8, D8⟩ := hrel
                by_cases h40 : (n8 : Int) ≤ 40
                · go_wp2_with fail
                  refine (l20Plain_c D8.rd (by omega)).mono ?_
                  rintro e w9 ⟨⟨xo, xa, xb, xc⟩, rfl, hR, hg⟩
                  dsimp only [Cd.val]
                  have D9 := D8.pick hR hg
                  go_wp2_with (at_builtin; refine app_lit D9 rfl _ _ rfl rfl _ _ 1 _ [⟨xo, xa, xb, xc⟩] rfl rfl rfl (by omega) ?_)
                  intro A10 c10 w10 D10
                  clear D8 D9
                  go_wp2
                  go_roundw
                  case rel => exact ⟨t + 1, _, _, _, rfl, by omega, .inr (by omega), D10.more (by omega)⟩
                  case measure => (simp [lenOf] <;> omega)
                · go_wp2
                  go_ret
                  exact ⟨_, _, _, rfl, by omega, D8.more (by omega)⟩
      | true =>
        by_cases h37 : (n4 : Int) < 37
        · go_wp2_with fail
          refine (pick_i D5.rd (by omega) _ (by decide) (by decide)).mono ?_
          rintro e w6 ⟨v6, rfl, hv6, hR, hg, -, -⟩
          have D6 := D5.pick hR hg
          clear D5 hR hg
          go_wp2_with (at_builtin; refine app_lit D6 rfl _ _ rfl rfl _ _ 2 _ [⟨2, 2, 0, 0⟩, ⟨9, (v6 : Int), 2, 0⟩] rfl rfl rfl (by omega) ?_)
          intro A7 c7 w7 D7
          clear D6
          generalize hn7 : n4 + 2 = n7 at *
          have hn0 : ¬ n7 = 0 := by omega
          · have hn0b : decide (((n7 : Nat) : Int) > 0) = true := decide_eq_true (by omega)
            go_wp2_with fail
            refine (odd_c D7.rd (by omega) m (by omega)).mono ?_
            rintro e w28 ⟨b28, rfl, -, hR, hg, -⟩
            have D28 := D7.pick hR hg
            clear D7 hR hg
            cases b28 with
            | false =>
              go_wp2
              go_ret
              exact ⟨_, _, _, rfl, by omega, D28.more (by omega)⟩
            | true =>
              go_wp2_with fail
              refine (pick_i D28.rd (by omega) _ (by omega) (by omega)).mono ?_
              rintro e w29 ⟨v29, rfl, hv29, hR, hg, -, -⟩
              have D29 := D28.pick hR hg
              clear D28 hR hg
              go_wp2_with fail
              refine (pick_i D29.rd (by omega) _ (by decide) (by decide)).mono ?_
              rintro e w30 ⟨v30, rfl, hv30, hR, hg, -, -⟩
              have D30 := D29.pick hR hg
              clear D29 hR hg
              have hc5 : v30 = 0 ∨ v30 = 1 ∨ v30 = 2 ∨ v30 = 3 ∨ v30 = 4 := by omega
              rcases hc5 with rfl | rfl | rfl | rfl | rfl
              · obtain ⟨gb, rfl⟩ := D30.addr (by omega)
                have hkI : (v29 : Int) < ((n7 : Nat) : Int) := by omega
                go_wp2_with fail
                refine (l20Code_c D30.rd (by omega) 1 (by omega)).mono ?_
                rintro e w31 ⟨⟨xo, xa, xb, xc⟩, rfl, hR, hg⟩
                dsimp only [Cd.val]
                have D31 := D30.pick hR hg
                have hth := D31.there v29 (by omega)
                have D9 := D31.setAt v29 ⟨xo, xa, xb, xc⟩
                rename_i K1 hK1
                try simp only []
                refine hK1 _ _ (wpList_step (fun K2 hK2 => ?_))
                go_simp
                refine hK2 _ _ (wpList_store_mid rfl _ _ _ rfl _ _ _ rfl rfl hth (by kernel_rfl) (by simp [Value.oneCell']) (wpList_nil ?_))
                go_wp2
                go_ret
                exact ⟨_, _, _, rfl, by omega, D9.more (by omega)⟩
              · skip
                go_wp2_with (at_builtin; refine app_lit D30 rfl _ _ rfl rfl _ _ 1 _ [⟨14, 0, 0, 0⟩] rfl rfl rfl (by omega) ?_)
                intro A32 c32 w32 D32
                go_wp2
                go_ret
                exact ⟨_, _, _, rfl, by omega, D32.more (by omega)⟩
              · skip
                go_wp2_with (at_builtin; refine app_lit D30 rfl _ _ rfl rfl _ _ 1 _ [⟨12, 0, 0, 0⟩] rfl rfl rfl (by omega) ?_)
                intro A33 c33 w33 D33
                go_wp2
                go_ret
                exact ⟨_, _, _, rfl, by omega, D33.more (by omega)⟩
              · obtain ⟨l6, hl6, rl6, nl6⟩ := (D30.alloc (.cells lit8 50)).reads
                have D6 := D30.lit8
                have hs6 := D30.size
                go_wp2_with (at_builtin; refine app_ds D6 rfl _ _ rfl rfl _ _ _ l6 rfl hl6 nl6 rl6 (by omega) ?_)
                intro A7 c7 w7 D7
                go_wp2
                go_ret
                exact ⟨_, _, _, rfl, by omega, D7.more (by omega)⟩
              · go_wp2_with fail
                go_loopw [5] (fun ov wr => DefRel w B g (K + 412830) n7 ov wr) (fun ov _ => 41 - lenOf ov)
                case atStart => exact ⟨0, _, _, _, rfl, by omega, .inl rfl, D30.more (by omega)⟩
                case round =>
                  clear D30
                  obtain ⟨t, n8, A8, c8, rfl, hn8, ht8, D8⟩ := hrel
                  by_cases h40 : (n8 : Int) ≤ 40
                  · go_wp2_with fail
                    refine (l20Plain_c D8.rd (by omega)).mono ?_
                    rintro e w9 ⟨⟨xo, xa, xb, xc⟩, rfl, hR, hg⟩
                    dsimp only [Cd.val]
                    have D9 := D8.pick hR hg
                    go_wp2_with (at_builtin; refine app_lit D9 rfl _ _ rfl rfl _ _ 1 _ [⟨xo, xa, xb, xc⟩] rfl rfl rfl (by omega) ?_)
                    intro A10 c10 w10 D10
                    clear D8 D9
                    go_wp2
                    go_roundw
                    case rel => exact ⟨t + 1, _, _, _, rfl, by omega, .inr (by omega), D10.more (by omega)⟩
                    case measure => (simp [lenOf] <;> omega)
                  · go_wp2
                    go_ret
                    exact ⟨_, _, _, rfl, by omega, D8.more (by omega)⟩
        · skip
          have hn0 : ¬ n4 = 0 := by omega
          · have hn0b : decide (((n4 : Nat) : Int) > 0) = true := decide_eq_true (by omega)
            go_wp2_with fail
            refine (odd_c D5.rd (by omega) m (by omega)).mono ?_
            rintro e w35 ⟨b35, rfl, -, hR, hg, -⟩
            have D35 := D5.pick hR hg
            clear D5 hR hg
            cases b35 with
            | false =>
              go_wp2
              go_ret
              exact ⟨_, _, _, rfl, by omega, D35.more (by omega)⟩
            | true =>
              go_wp2_with fail
              refine (pick_i D35.rd (by omega) _ (by omega) (by omega)).mono ?_
              rintro e w36 ⟨v36, rfl, hv36, hR, hg, -, -⟩
              have D36 := D35.pick hR hg
              clear D35 hR hg
              go_wp2_with fail
              refine (pick_i D36.rd (by omega) _ (by decide) (by decide)).mono ?_
              rintro e w37 ⟨v37, rfl, hv37, hR, hg, -, -⟩
              have D37 := D36.pick hR hg
              clear D36 hR hg
              have hc5 : v37 = 0 ∨ v37 = 1 ∨ v37 = 2 ∨ v37 = 3 ∨ v37 = 4 := by omega
              rcases hc5 with rfl | rfl | rfl | rfl | rfl
              · obtain ⟨gb, rfl⟩ := D37.addr (by omega)
                have hkI : (v36 : Int) < ((n4 : Nat) : Int) := by omega
                go_wp2_with fail
                refine (l20Code_c D37.rd (by omega) 1 (by omega)).mono ?_
                rintro e w38 ⟨⟨xo, xa, xb, xc⟩, rfl, hR, hg⟩
                dsimp only [Cd.val]
                have D38 := D37.pick hR hg
                have hth := D38.there v36 (by omega)
                have D9 := D38.setAt v36 ⟨xo, xa, xb, xc⟩
                rename_i K1 hK1
                try simp only []
                refine hK1 _ _ (wpList_step (fun K2 hK2 => ?_))
                go_simp
                refine hK2 _ _ (wpList_store_mid rfl _ _ _ rfl _ _ _ rfl rfl hth (by kernel_rfl) (by simp [Value.oneCell']) (wpList_nil ?_))
                go_wp2
                go_ret
                exact ⟨_, _, _, rfl, by omega, D9.more (by omega)⟩
              · skip
                go_wp2_with (at_builtin; refine app_lit D37 rfl _ _ rfl rfl _ _ 1 _ [⟨14, 0, 0, 0⟩] rfl rfl rfl (by omega) ?_)
                intro A39 c39 w39 D39
                go_wp2
                go_ret
                exact ⟨_, _, _, rfl, by omega, D39.more (by omega)⟩
              · skip
                go_wp2_with (at_builtin; refine app_lit D37 rfl _ _ rfl rfl _ _ 1 _ [⟨12, 0, 0, 0⟩] rfl rfl rfl (by omega) ?_)
                intro A40 c40 w40 D40
                go_wp2
                go_ret
                exact ⟨_, _, _, rfl, by omega, D40.more (by omega)⟩
              · obtain ⟨l6, hl6, rl6, nl6⟩ := (D37.alloc (.cells lit8 50)).reads
                have D6 := D37.lit8
                have hs6 := D37.size
                go_wp2_with (at_builtin; refine app_ds D6 rfl _ _ rfl rfl _ _ _ l6 rfl hl6 nl6 rl6 (by omega) ?_)
                intro A7 c7 w7 D7
                go_wp2
                go_ret
                exact ⟨_, _, _, rfl, by omega, D7.more (by omega)⟩
              · go_wp2_with fail
                go_loopw [5] (fun ov wr => DefRel w B g (K + 412830) n4 ov wr) (fun ov _ => 41 - lenOf ov)
                case atStart => exact ⟨0, _, _, _, rfl, by omega, .inl rfl, D37.more (by omega)⟩
                case round =>
                  clear D37
                  obtain ⟨t, n8, A8, c8, rfl, hn8, ht8, D8⟩ := hrel
                  by_cases h40 : (n8 : Int) ≤ 40
                  · go_wp2_with fail
                    refine (l20Plain_c D8.rd (by omega)).mono ?_
                    rintro e w9 ⟨⟨xo, xa, xb, xc⟩, rfl, hR, hg⟩
                    dsimp only [Cd.val]
                    have D9 := D8.pick hR hg
                    go_wp2_with (at_builtin; refine app_lit D9 rfl _ _ rfl rfl _ _ 1 _ [⟨xo, xa, xb, xc⟩] rfl rfl rfl (by omega) ?_)
                    intro A10 c10 w10 D10
                    clear D8 D9
                    go_wp2
                    go_roundw
                    case rel => exact ⟨t + 1, _, _, _, rfl, by omega, .inr (by omega), D10.more (by omega)⟩
                    case measure => (simp [lenOf] <;> omega)
                  · go_wp2
                    go_ret
                    exact ⟨_, _, _, rfl, by omega, D8.more (by omega)⟩
end Go.Proofs.Ytfgbbajkdpideaa
