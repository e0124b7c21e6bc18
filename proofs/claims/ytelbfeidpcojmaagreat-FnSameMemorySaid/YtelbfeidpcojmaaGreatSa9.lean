/- Part 9 of what the claim needs. -/
import Derived.Test.YtelbfeidpcojmaaGreatSa2
import Derived.Test.YtelbfeidpcojmaaGreatSa4
import Derived.Test.YtelbfeidpcojmaaGreatSa5
import Derived.Test.YtelbfeidpcojmaaGreatSa8
import Derived.StillTailTactics
import Derived.IntWalk
import Derived.Deep.RegionLaw
import Derived.Deep.AppendLies
import Derived.Deep.CutRange
import Derived.Deep.Cut
namespace Go.Proofs.YtelbfeidpcojmaaGreat
open Go.RowKit
set_option linter.unusedVariables false
set_option linter.unusedSimpArgs false

set_option maxRecDepth 100000 in
set_option maxHeartbeats 2000000 in
theorem newMachine_c (A : Option Addr) (c : Nat) (l : List Cd) (w : World) (hA : RdC w w.heap.size A l) (hp : pv l = true) :
    Calls Tryz.prog 57 #[.slice A l.length c] w fun e w' => ∃ mg ob ga, e = .returned (.pointer (some ⟨mg, 0, none⟩)) ∧ MK w' w.heap.size mg A c l ob ga ∧ Below w.heap.size w w' := by
  have h40 := (pv_iff.1 hp).1
  have HP := Lib.hid hp
  clear hp
  go_enter Tryz.func57, Tryz.ntmps57
  go_wp2_with fail
  refine (blocks_c A c l w hA (by omega) (pv_all HP.out)).mono ?_
  rintro e w1 ⟨hb1, hcase⟩
  rcases hcase with ⟨_, rfl, ga, oth, en, As, cs, hW, hP⟩ | ⟨hp2, _⟩
  case inr => exact absurd (pv_iff.1 HP.out).2 hp2
  have hX := Ext.alloc w1 (.cells #[.slice A l.length c, .slice (some ⟨w.heap.size + 1, 0, none⟩) l.length l.length] 113)
  have hN := heap_alloc_new w1 (.cells #[.slice A l.length c, .slice (some ⟨w.heap.size + 1, 0, none⟩) l.length l.length] 113)
  have hs1 := hb1.size
  have HMK := Lib.hid (show MK (w1.alloc (.cells #[.slice A l.length c, .slice (some ⟨w.heap.size + 1, 0, none⟩) l.length l.length] 113)) w.heap.size w1.heap.size A c l (w.heap.size + 1) ga from
    ⟨hN, hs1, hW.own.ext hX, fun p hp ho => by
      obtain ⟨b1, b2⟩ := hW.blk p hp ho
      have hc := hP.clo p hp ho (by simp)
      exact ⟨by omega, by rw [hc]; exact hX.heap_ b2⟩, (hA.below hb1).below ((hX.below).mono hs1)⟩)
  clear hX hN hW hP
  go_wp2
  go_ret
  exact ⟨w1.heap.size, _, ga, rfl, HMK.out, hb1.alloc hs1 _⟩

set_option maxRecDepth 100000 in
set_option maxHeartbeats 2000000 in
theorem mv1_c (x : Int) (w : World) : Calls Tryz.prog 85 #[.int .i64 x] w fun e w' => e = .returned (.bool (!inR x 0 255)) ∧ w = w' := by
  go_enter Tryz.func85, Tryz.ntmps85
  go_wp2_with (go_at_call 86; refine (isWord_c _ _).mono ?_; rintro e w' ⟨rfl, rfl⟩)
  go_ret
  exact ⟨rfl, rfl⟩

theorem any_take {g : Int → Bool} {l : List Int} {k : Nat} {x : Int} (hx : l[k]? = some x) (h : (l.take k).any g = false) : (l.take (k + 1)).any g = g x := by
  obtain ⟨hk, rfl⟩ := List.getElem?_eq_some_iff.1 hx
  rw [List.take_succ_eq_append_getElem hk, List.any_append, h]
  simp
theorem any_hit {g : Int → Bool} {l : List Int} {k : Nat} {x : Int} (hx : l[k]? = some x) (h : g x = true) : l.any g = true :=
  List.any_eq_true.2 ⟨x, List.mem_of_getElem? hx, h⟩

set_option maxRecDepth 100000 in
set_option maxHeartbeats 2000000 in
theorem mvIndex_c (A : Option Addr) (c : Nat) (l : List Int) (w : World) (hA : RdI w w.heap.size A l) (hl : l.length ≤ 1000000000) (g : Int → Bool) (hgd : g = fun x => !inR x 0 255) :
    Calls Tryz.prog 87 #[.slice A l.length c, .func (Fn.func 85) #[] #[]] w fun e w' => ∃ i : Int, e = .returned (.int .i64 i) ∧ decide (0 ≤ i) = l.any g ∧ w = w' := by
  have HGD := Lib.hid (fun x => show g x = !inR x 0 255 by rw [hgd])
  clear hgd
  go_enter Tryz.func87, Tryz.ntmps87
  go_wp2
  go_loop [8] (fun kv => ∃ k : Nat, k ≤ l.length ∧ kv = .int .i64 k ∧ Hid ((l.take k).any g = false)) (fun kv => l.length - (intOf kv).toNat)
  case atStart => exact ⟨0, Nat.zero_le _, rfl, Lib.hid (by simp)⟩
  case round =>
    obtain ⟨k, hk, rfl, HN⟩ := hrel
    by_cases hlt : k < l.length
    · obtain ⟨b, off, x, rfl, hbB, hx, d0⟩ := hA.at_ hlt
      have HX := Lib.hid hx
      have hkI : (k : Int) < (l.length : Int) := by omega
      clear hx
      go_wp2_with fail
      refine (mv1_c x _).mono ?_
      rintro e w1 ⟨rfl, rfl⟩
      rw [← HGD.out x]
      cases hgx : g x with
      | true =>
        have HG := Lib.hid (any_hit HX.out hgx)
        clear hgx
        go_wp2
        go_ret
        exact ⟨k, rfl, by rw [HG.out]; simp, rfl⟩
      | false =>
        have HG := Lib.hid (show (l.take (k + 1)).any g = false by rw [any_take HX.out HN.out, hgx])
        clear hgx
        go_wp2
        go_round
        case rel => exact ⟨k + 1, by omega, by go_num, HG⟩
        case measure => simp [intOf]; omega
    · obtain rfl : k = l.length := by omega
      have HN2 := Lib.hid (show l.any g = false by have := HN.out; rwa [List.take_length] at this)
      go_wp2
      go_ret
      exact ⟨-1, rfl, by rw [HN2.out]; simp, rfl⟩

set_option maxRecDepth 100000 in
set_option maxHeartbeats 2000000 in
theorem mvContains_c (A : Option Addr) (c : Nat) (l : List Int) (w : World) (hA : RdI w w.heap.size A l) (hl : l.length ≤ 1000000000) (g : Int → Bool) (hgd : g = fun x => !inR x 0 255) :
    Calls Tryz.prog 52 #[.slice A l.length c, .func (Fn.func 85) #[] #[]] w fun e w' => e = .returned (.bool (l.any g)) ∧ w = w' := by
  have HGD := Lib.hid hgd
  clear hgd
  go_enter Tryz.func52, Tryz.ntmps52
  go_wp2_with fail
  refine (mvIndex_c A c l w hA hl g HGD.out).mono ?_
  rintro e w1 ⟨i, rfl, hi, rfl⟩
  go_wp2
  go_ret
  exact ⟨retb (by first | exact hi | (rw [← hi]; simp) | (rw [← hi])), rfl⟩

set_option maxRecDepth 100000 in
set_option maxHeartbeats 2000000 in
theorem iMemoryValid_c (A : Option Addr) (c : Nat) (m : List Int) (w : World) (hM : RdI w w.heap.size A m) (hl : m.length ≤ 1000000000) :
    Calls Tryz.prog 50 #[.slice A m.length c] w fun e w' => e = .returned (.bool (memOk m)) ∧ w = w' := by
  cases hin : inR m.length 1 32 with
  | false =>
    go_enter Tryz.func50, Tryz.ntmps50
    go_wp2_with (go_at_call 54; refine (within_c _ _ _ _).mono ?_; rintro e w' ⟨rfl, rfl⟩)
    go_ret
    exact ⟨retb (by simp [memOk, hin]), rfl⟩
  | true =>
    have HA := Lib.hid (show memOk m = !(m.any fun x => !inR x 0 255) by simp [memOk, hin, List.all_eq_not_any_not])
    go_enter Tryz.func50, Tryz.ntmps50
    go_wp2_with (go_at_call 54; refine (within_c _ _ _ _).mono ?_; rintro e w' ⟨rfl, rfl⟩)
    refine (mvContains_c A c m w hM hl _ rfl).mono ?_
    rintro e w1 ⟨rfl, rfl⟩
    go_wp2
    go_ret
    exact ⟨retb HA.out.symm, rfl⟩

set_option maxRecDepth 100000 in
set_option maxHeartbeats 2000000 in
theorem canRun_c (A Am : Option Addr) (c cm : Nat) (l : List Cd) (n : Int) (m : List Int) (w : World) (hA : RdC w w.heap.size A l) (hM : RdI w w.heap.size Am m) (hl : l.length ≤ 1000000000) (hml : m.length ≤ 1000000000) :
    Calls Tryz.prog 22 #[.slice A l.length c, .int .i64 n, .slice Am m.length cm] w fun e w' => e = .returned (.bool (lockOk l n m)) ∧ Below w.heap.size w w' := by
  cases hp : pv l with
  | false =>
    go_enter Tryz.func22, Tryz.ntmps22
    go_wp2_with fail
    refine (iProgramValid_c A c l w hA hl).mono ?_
    rintro e w1 ⟨rfl, hb1⟩
    rw [hp]
    go_wp2
    go_ret
    exact ⟨retb (by simp [lockOk, hp]), hb1⟩
  | true =>
    cases hin : inR n 1 8 with
    | false =>
      go_enter Tryz.func22, Tryz.ntmps22
      go_wp2_with fail
      refine (iProgramValid_c A c l w hA hl).mono ?_
      rintro e w1 ⟨rfl, hb1⟩
      rw [hp]
      go_wp2_with fail
      refine (isLanes_c n w1).mono ?_
      rintro e w2 ⟨rfl, rfl⟩
      rw [hin]
      go_wp2
      go_ret
      exact ⟨retb (by simp [lockOk, hin]), hb1⟩
    | true =>
      go_enter Tryz.func22, Tryz.ntmps22
      go_wp2_with fail
      refine (iProgramValid_c A c l w hA hl).mono ?_
      rintro e w1 ⟨rfl, hb1⟩
      rw [hp]
      go_wp2_with fail
      refine (isLanes_c n w1).mono ?_
      rintro e w2 ⟨rfl, rfl⟩
      rw [hin]
      go_wp2_with fail
      refine (iMemoryValid_c Am cm m w1 ((hM.below hb1).more hb1.size) hml).mono ?_
      rintro e w2 ⟨rfl, rfl⟩
      go_wp2
      go_ret
      exact ⟨retb (by simp [lockOk, hp, hin]), hb1⟩

theorem iMaskAll_c (n : Int) (w : World) :
    Calls Tryz.prog 39 #[.int .i64 n] w fun e w' => e = .returned (.int .i64 (maskAllI n)) ∧ w = w' := by
  cases h : inR n 1 8 with
  | false =>
    go_enter Tryz.func39, Tryz.ntmps39
    go_wp2_with (go_at_call 49; refine (isLanes_c _ _).mono ?_; rintro e w' ⟨rfl, rfl⟩)
    go_ret
    exact ⟨reti (by simp [maskAllI, h]), rfl⟩
  | true =>
    have h' := inR_iff.1 h
    have h8 : n = 1 ∨ n = 2 ∨ n = 3 ∨ n = 4 ∨ n = 5 ∨ n = 6 ∨ n = 7 ∨ n = 8 := by omega
    clear h h'
    rcases h8 with rfl | rfl | rfl | rfl | rfl | rfl | rfl | rfl
    all_goals
      go_enter Tryz.func39, Tryz.ntmps39
      go_wp2_with (go_at_call 49; refine (isLanes_c _ _).mono ?_; rintro e w' ⟨rfl, rfl⟩)
      go_ret
      exact ⟨reti (by decide), rfl⟩


/-- A machine is as before behind steps of lanes. -/
theorem MK.stc {O : Nat → Prop} {w w' : World} {B mg : Nat} {A : Option Addr} {ca : Nat} {l : List Cd} {ob : Nat} {ga : Nat → Nat} (h : MK w B mg A ca l ob ga) (hs : StC O B w w') : MK w' B mg A ca l ob ga :=
  h.keep hs.bel (fun k cs hk => hs.byt k cs _ (by decide) (by decide) hk) (fun k cs hk => hs.byt k cs _ (by decide) (by decide) hk) (fun k cs hk => hs.byt k cs _ (by decide) (by decide) hk)

theorem Ext.drewN (w : World) : ∀ n, Ext w (w.drewN n)
  | 0 => Ext.refl _
  | n + 1 => (Ext.drewN w n).trans (Ext.drew _)

theorem isDone_c {O : Nat → Prop} {w : World} {B n mg : Nat} {A : Option Addr} {ca : Nat} {l : List Cd} {ob : Nat} {ga : Nat → Nat} {z : Gm} {c : Cw} (hm : MK w B mg A ca l ob ga) (h : CM O w B n z c) {k : Nat} (hk : k < n) :
    Calls Tryz.prog 92 #[.pointer (some ⟨mg, 0, none⟩), .pointer (some ⟨z.lb, k * 4, none⟩)] w fun e w' => e = .returned (.bool (((c.lane k).pos : Int) == (l.length : Int))) ∧ Ext w w' := by
  obtain ⟨d0, d1⟩ := hm.cells
  obtain ⟨e0, e1, e2, e3⟩ := h.cells hk
  go_enter Tryz.func92, Tryz.ntmps92
  go_wp2_with fail
  go_quiet (fail)
  go_wp2
  go_ret
  exact ⟨rfl, ⟨rfl, rfl, rfl, Nat.le_refl _, fun _ _ => rfl⟩⟩

set_option maxRecDepth 100000 in
set_option maxHeartbeats 4000000 in
theorem enter_c {O : Nat → Prop} {w : World} {B n mg : Nat} {A : Option Addr} {ca : Nat} {l : List Cd} {ob : Nat} {ga : Nat → Nat} {z : Gm} {c : Cw} (hm : MK w B mg A ca l ob ga) (h : CM O w B n z c) (hok : CwOk l n c) {k : Nat} (hk : k < n) (hp : pv l = true) (hB : B ≤ w.heap.size)
    (hlt : (c.lane k).pos < l.length) (hw : (c.lane k).waits = false) (ho : opB (cdAt l (c.lane k).pos) = true) :
    Calls Tryz.prog 122 #[.pointer (some ⟨mg, 0, none⟩), .pointer (some ⟨z.lb, k * 4, none⟩)] w fun e w' => e = .returned (.tuple #[]) ∧ ∃ z', CM O w' B n z' (stepAt l c k) ∧ (z'.lb = z.lb ∧ z'.lc = z.lc ∧ z'.mb = z.mb ∧ z'.mc = z.mc) ∧ StC O B w w' := by
  obtain ⟨d0, d1⟩ := hm.cells
  obtain ⟨e0, e1, e2, e3⟩ := h.cells hk
  obtain ⟨b0, b1, b2, b3⟩ := hm.own_open hlt ho
  obtain ⟨lb, lo, y, hA, hbB, hy, l0, l1, l2, l3⟩ := hm.lst.at_ hlt
  rw [hA] at d0
  have hltI : ((c.lane k).pos : Int) < (l.length : Int) := by omega
  have hl40 := (pv_iff.1 hp).1
  have q1 := World.block_lt_of_cell? w _ d0
  have q2 := World.block_lt_of_cell? w _ e0
  have q3 := World.block_lt_of_cell? w _ b0
  have q4 := World.block_lt_of_cell? w _ l0
  have q5 := World.block_lt_of_cell? w _ b1
  simp only at q1 q2 q3 q4 q5
  have HM := Lib.hid hm
  have HC := Lib.hid h
  have hyd : cdAt l (c.lane k).pos = y := by unfold cdAt; rw [hy]
  have HV := Lib.hid (show cvOk y = true by rw [← hyd]; exact cdAt_ok hp hlt)
  have HL := Lib.hid (hok.at_ hk).2
  obtain ⟨p1, p2, p3⟩ := pEnd_bound hp hy (by rw [← hyd]; exact ho)
  have hov := overN_le hp hy (by rw [← hyd]; exact ho)
  have HOK := Lib.hid hok
  clear hA hm h hok
  have HY := Lib.hid hy
  have HYD := Lib.hid hyd
  clear hy hyd
  generalize hpos : (c.lane k).pos = pos at *
  go_enter Tryz.func122, Tryz.ntmps122
  go_wp2_with fail
  go_region_held3 (fun w' => w'.cell? ⟨mg, 0, none⟩ = some (.slice (some ⟨lb, lo, none⟩) l.length ca) ∧ w'.cell? ⟨mg, 1, none⟩ = some (.slice (some ⟨ob, 0, none⟩) l.length l.length) ∧ w'.cell? ⟨z.lb, k * 4 + 1, none⟩ = some (.int .i64 pos) ∧ w'.cell? ⟨lb, lo + pos * 4, none⟩ = some (.int .i64 y.op) ∧ w'.cell? ⟨lb, lo + pos * 4 + 1, none⟩ = some (.int .i64 y.a) ∧ w'.cell? ⟨lb, lo + pos * 4 + 2, none⟩ = some (.int .i64 y.b) ∧ w'.cell? ⟨lb, lo + pos * 4 + 3, none⟩ = some (.int .i64 y.c) ∧ w'.cell? ⟨ob, pos, none⟩ = some (.pointer (some ⟨ga pos, 0, none⟩))) (first | go_keep | fail) (fail)
  rename_i hh
  clear hh
  have hX1 := (Ext.alloc w (.cells #[.int .i64 y.op, .int .i64 y.a, .int .i64 y.b, .int .i64 y.c] 76)).trans (Ext.drew _)
  have hN := (Ext.drew _).heap_ (heap_alloc_new w (.cells #[.int .i64 y.op, .int .i64 y.a, .int .i64 y.b, .int .i64 y.c] 76))
  generalize (w.alloc (.cells #[.int .i64 y.op, .int .i64 y.a, .int .i64 y.b, .int .i64 y.c] 76)).drew = w1 at *
  have h1 := HC.out.ext hX1
  have hws := hX1.size
  have hn0 := cell_of_heap hN 0
  have hn1 := cell_of_heap hN 1
  have hn2 := cell_of_heap hN 2
  have hxb : w.heap.size < w1.heap.size := lt_of_block hN
  obtain ⟨a, haE⟩ := Int.eq_ofNat_of_zero_le (cvOk_a HV.out).1
  have ha3 : a ≤ 3 := by have := (cvOk_a HV.out).2; omega
  have hreg := h1.reg hk ha3 HL.out.four
  have f1 := h1.free (k * 4 + 1)
  replace e0 := hX1.cell e0
  replace e1 := hX1.cell e1
  replace e2 := hX1.cell e2
  replace b1 := hX1.cell b1
  replace b2 := hX1.cell b2
  replace b3 := hX1.cell b3
  have hB1 : B ≤ w1.heap.size := by omega
  have hst1 := StC.of_ext (O := O) (B := B) hX1 hB
  have HAE := Lib.hid haE
  have HX1 := Lib.hid hX1
  have HC1 := Lib.hid h1
  have HST := Lib.hid hst1
  rw [haE] at hn1
  clear haE hX1 hN h1 hst1 d0 d1 b0 l0 l1 l2 l3 q1 q2 q3 q4 q5 HC HM
  generalize w.heap.size = xb at *
  have hkc : k < c.ls.length := by rw [HOK.out.len]; exact hk
  have hop : 10 < (cdAt l (c.lane k).pos).op := by
    rw [hpos]
    simp only [opB, Bool.or_eq_true, beq_iff_eq] at ho
    omega
  have HSM := Lib.hid (stepAt_move hop)
  have hlW : (c.lane k).waits = false := hw
  have HNX : ∀ (p' : Nat) (ts' : List Int), nextP l (c.lane k).regs pos (c.lane k).turns = (p', ts') → stepAt l c k = c.put k ⟨(c.lane k).regs, p', ts', false⟩ := fun p' ts' h => by
    rw [HSM.out, hpos, h]
  have HNX := Lib.hid HNX
  have HNP := Lib.hid (rfl : nextP l (c.lane k).regs pos (c.lane k).turns = nextP l (c.lane k).regs pos (c.lane k).turns)
  have HFIN : ∀ (w2 : World) (z2 : Gm) (c2 : Cw) (p' : Nat) (ts' : List Int), CM O w2 B n z2 c2 → B ≤ w2.heap.size → (z2.lb = z.lb ∧ z2.lc = z.lc ∧ z2.mb = z.mb ∧ z2.mc = z.mc) → StC O B w w2 → c2 = c.put k ⟨(c.lane k).regs, pos, ts', false⟩ → nextP l (c.lane k).regs pos (c.lane k).turns = (p', ts') →
      ∃ z', CM O (w2.setCell ⟨z.lb, k * 4 + 1, none⟩ (.int .i64 p')) B n z' (stepAt l c k) ∧ (z'.lb = z.lb ∧ z'.lc = z.lc ∧ z'.mb = z.mb ∧ z'.mc = z.mc) ∧ StC O B w (w2.setCell ⟨z.lb, k * 4 + 1, none⟩ (.int .i64 p')) := by
    intro w2 z2 c2 p' ts' h2 hB2 hz hst hc2 hn
    subst hc2
    have hl2 := put_lane hkc ⟨(c.lane k).regs, pos, ts', false⟩
    have h3 := CM.put h2 hB2 (k := k) (j := 1) (v := .int .i64 p') (c' := c.put k ⟨(c.lane k).regs, p', ts', false⟩) hk (by decide) (by rw [put_lane hkc]; rfl)
      (fun i hi hne => by
        rw [put_lane hkc, put_lane hkc]
        match i, hne with
        | 0, _ => rfl
        | 2, _ => rfl
        | i + 3, _ => rfl)
      (fun i hi hne => by rw [put_other hne, put_other hne]) (by rw [put_lane hkc, put_lane hkc]) (by rw [put_lane hkc, put_lane hkc]) rfl
    rw [HNX.out p' ts' hn]
    rw [hz.1] at h3
    exact ⟨z2, h3.1, hz, hst.trans h3.2⟩
  have HF := Lib.hid HFIN
  clear HFIN HNX HSM
  have HSELF := Lib.hid (show c.put k ⟨(c.lane k).regs, pos, (c.lane k).turns, false⟩ = c by
    have e1 : (⟨(c.lane k).regs, pos, (c.lane k).turns, false⟩ : Ln) = c.lane k := by
      rw [← hpos, ← hlW]
    rw [e1]
    exact put_self hkc)
  have HKC := Lib.hid hkc
  clear hkc hlW hop HNP
  generalize hra : rg (c.lane k).regs a = ra at hreg
  have HRE := Lib.hid (show rg (c.lane k).regs y.a = ra by rw [HAE.out]; exact hra)
  clear hra
  by_cases hz0 : ra = 0
  · have hz1 : (ra != 0) = false := by simp [hz0]
    have HZ := Lib.hid hz0
    clear hz0
    have hnx : Hid (nextP l (c.lane k).regs pos (c.lane k).turns = (overN l pos, (c.lane k).turns)) := Lib.hid (by
      have h1 : (rg (c.lane k).regs (cdAt l pos).a == 0) = true := by rw [HYD.out, HRE.out, HZ.out]; rfl
      simp only [opB, Bool.or_eq_true] at ho
      unfold nextP
      rw [h1]
      rcases ho with h | h
      · simp [h]
      · have h2 : ((cdAt l pos).op == 11) = false := beq_eq_false_iff_ne.2 (by rw [beq_iff_eq] at h; omega)
        have h3 : ((cdAt l pos).op == 12) = false := beq_eq_false_iff_ne.2 (by rw [beq_iff_eq] at h; omega)
        simp [h2, h3, h])
    go_wp2_with fail
    go_quiet (fail)
    by_cases hel : 0 ≤ (endOf l pos).2
    · have hq : (endOf l pos).2 + 1 = ((overN l pos : Nat) : Int) := by unfold overN elseAt; rw [if_pos hel]; omega
      have hwr : IntKind.i64.wrap ((endOf l pos).2 + 1) = (endOf l pos).2 + 1 := IntWalk.i64_in _ (by omega)
      have hwr : IntKind.i64.wrap ((endOf l pos).1 + 1) = (endOf l pos).1 + 1 := IntWalk.i64_in _ (by omega)
      have HQ := Lib.hid hq
      clear hq
      go_wp2
      go_end0
      rw [HQ.out]
      refine ⟨rfl, ?_⟩
      exact HF.out _ z c _ _ (HC1.out.ext (Ext.drewN _ _)) (by exact hB1) ⟨rfl, rfl, rfl, rfl⟩ (HST.out.trans (StC.of_ext (Ext.drewN _ _) hB1)) HSELF.out.symm hnx.out
    · have hq : ((pEnd l pos : Nat) : Int) + 1 = ((overN l pos : Nat) : Int) := by unfold overN elseAt endN; rw [if_neg hel]; unfold pEnd; simp
      have HQ := Lib.hid hq
      clear hq
      go_wp2
      go_end0
      rw [HQ.out]
      refine ⟨rfl, ?_⟩
      exact HF.out _ z c _ _ (HC1.out.ext (Ext.drewN _ _)) (by exact hB1) ⟨rfl, rfl, rfl, rfl⟩ (HST.out.trans (StC.of_ext (Ext.drewN _ _) hB1)) HSELF.out.symm hnx.out
  · have hz1 : (ra != 0) = true := by simp [hz0]
    have HZ := Lib.hid hz0
    clear hz0
    by_cases h13 : y.op = 13
    · have hop : (y.op == 13) = true := by simp [h13]
      have hnx : Hid (nextP l (c.lane k).regs pos (c.lane k).turns = (pos + 1, (c.lane k).turns ++ [y.b - 1])) := Lib.hid (by
        have h1 : (rg (c.lane k).regs (cdAt l pos).a == 0) = false := by rw [HYD.out, HRE.out]; simp [HZ.out]
        unfold nextP
        rw [h1, HYD.out, h13]
        rfl)
      have H13 := Lib.hid h13
      clear h13
      go_wp2_with fail
      go_quiet (fail)
      have htl := HL.out.turns hp |>.1
      have hXq := Ext.drewN w1 nq
      have hC2 := HC1.out.ext hXq
      have HST2 := Lib.hid (HST.out.trans (StC.of_ext hXq hB1))
      have hB2 : B ≤ (w1.drewN nq).heap.size := hB1
      replace e2 := hXq.cell e2
      replace e1 := hXq.cell e1
      replace hn2 := hXq.cell (hn2.trans rfl)
      replace hn0 := hXq.cell (hn0.trans rfl)
      have hxb2 : xb < (w1.drewN nq).heap.size := hxb
      clear hXq e0 hn1 hreg b1 b2 b3 f1 HC1 HST HX1 hxb hws hB1
      generalize w1.drewN nq = w2 at *
      have HC2 := Lib.hid hC2
      obtain ⟨i0, hi0, hz0, hz1, hz2⟩ := info_parts infoInt
      have hOT := Lib.hid (OR.drew (OR.alloc (hC2.turns k hk) (.cells #[.int .i64 (y.b - 1)] 3)))
      obtain ⟨cur, hblk⟩ := hC2.heap
      have hgl : z.lb < w2.heap.size := lt_of_block hblk
      have hne : Value.ownBlock (.slice (adr (z.T k)) (c.lane k).turns.length (z.TC k)) ≠ some z.lb := own_ne (hC2.turns k hk) hblk (by decide)
      have hnew := heap_alloc_new w2 (.cells #[.int .i64 (y.b - 1)] 3)
      have h2 := (Below.heap_alloc w2 (.cells #[.int .i64 (y.b - 1)] 3) z.lb hgl).trans hblk
      have HCU := Lib.hid ((cell_of_heap hblk (k * 4 + 2)).symm.trans e2)
      have HCV := Lib.hid ((cell_of_heap hblk (k * 4 + 1)).symm.trans e1)
      clear hblk hC2
      have hsub : IntKind.i64.wrap (y.b - 1) = y.b - 1 := IntWalk.i64_in _ (by have := cvOk_b HV.out; omega)
      go_wp2_with fail
      go_region_law ((refine step_append_lies _ (by rfl) _ _ _ (by rfl) B 3 i0 _ 1 8 Tryz.underlying24 hi0 hz0 hz1 hz2 rfl (by omega) (.slice (adr (z.T k)) (c.lane k).turns.length (z.TC k)) (c.lane k).turns.length _ (by rfl) hOT.out ⟨w2.heap.size, 0, none⟩ 1 1 [.int .i64 (y.b - 1)] (by rfl) (by rfl) (World.news_of_block (cs := #[.int .i64 (y.b - 1)]) (t := 3) (fr := (0, 0)) hnew) (by simp [Value.oneCell']) (by omega) (by unfold maxLen; omega) (by omega) (by simp; omega) (w2.heap.size + 1) (by simp) ?_; intro gg cap w3 ho3 hgrow hat hlt3; have f3 := free_of_heap ((hgrow.block z.lb (by simp; omega) (fun e => hne e.symm)).trans h2) (k * 4 + 2); have c3 := (cell_of_heap ((hgrow.block z.lb (by simp; omega) (fun e => hne e.symm)).trans h2) (k * 4 + 2)).trans HCU.out))
      all_goals
        have hgr2 : (w2.alloc (.cells #[.int .i64 (y.b - 1)] 3)).grownBy w3 (z.T k) := ⟨hgrow.os, hgrow.tape, hgrow.output, hgrow.size, by rw [← own_adr (z.T k) (c.lane k).turns.length (z.TC k)]; exact hgrow.block⟩
        have hpush := CM.push HC2.out (Ext.alloc w2 (.cells #[.int .i64 (y.b - 1)] 3)) hB2 hk (g := gg) (cap := cap) (v := y.b - 1) (c' := c.put k ⟨(c.lane k).regs, pos, (c.lane k).turns ++ [y.b - 1], false⟩) hgr2 (by unfold OI; rw [List.map_append]; exact ho3)
          (by rw [own_adr] at hat; rcases hat with h | h; exact .inl h; exact .inr (by simp; omega)) (by rw [put_lane HKC.out]) (by rw [put_lane HKC.out]; exact ⟨rfl, hpos.symm, hw.symm⟩) (fun i hi hne => put_other hne _) rfl
        have e1' := (hpush.1.cells hk).2.1
        rw [put_lane HKC.out] at e1'
        have f1' := hpush.1.free (k * 4 + 1)
        have hB4 := Nat.le_trans hB2 hpush.2.size
        have HPU := Lib.hid hpush
        clear hgr2 hpush hgrow hat hlt3 ho3 f3 c3 h2 hne hnew HCU HCV hOT e1 e2 hn2 hn0
        generalize w3.setCell ⟨z.lb, k * 4 + 2, none⟩ (.slice (some ⟨gg, 0, none⟩) ((c.lane k).turns.length + 1) cap) = w4 at *
        go_wp2
        go_end0
        exact ⟨rfl, HF.out _ _ _ (pos + 1) _ HPU.out.1 hB4 ⟨rfl, rfl, rfl, rfl⟩ (HST2.out.trans HPU.out.2) rfl hnx.out⟩
    · have hop : (y.op == 13) = false := by simp [h13]
      have hnx : Hid (nextP l (c.lane k).regs pos (c.lane k).turns = (pos + 1, (c.lane k).turns)) := Lib.hid (by
        have h1 : (rg (c.lane k).regs (cdAt l pos).a == 0) = false := by rw [HYD.out, HRE.out]; simp [HZ.out]
        have h11 : (cdAt l pos).op = 11 := by
          simp only [opB, Bool.or_eq_true, beq_iff_eq] at ho
          rw [HYD.out] at ho ⊢
          omega
        unfold nextP
        rw [h1, h11]
        rfl)
      have H13 := Lib.hid h13
      clear h13
      go_wp2_with fail
      go_quiet (fail)
      go_wp2
      go_end0
      refine ⟨rfl, ?_⟩
      exact HF.out _ z c (pos + 1) _ (HC1.out.ext (Ext.drewN _ _)) (by exact hB1) ⟨rfl, rfl, rfl, rfl⟩ (HST.out.trans (StC.of_ext (Ext.drewN _ _) hB1)) HSELF.out.symm hnx.out


theorem MK.own_close {w : World} {B mg : Nat} {A : Option Addr} {ca : Nat} {l : List Cd} {ob : Nat} {ga : Nat → Nat} (h : MK w B mg A ca l ob ga) (hp : pv l = true) {p : Nat} {x : Cd} (hx : l[p]? = some x) (ho : x.op = 12 ∨ x.op = 14) :
    w.cell? ⟨ob, p, none⟩ = some (.pointer (some ⟨ga (aroundN l p), 0, none⟩)) ∧ w.cell? ⟨ga (aroundN l p), 0, none⟩ = some (.int .i64 (aroundN l p)) ∧ w.cell? ⟨ga (aroundN l p), 2, none⟩ = some (.int .i64 (endOf l (aroundN l p)).1) := by
  obtain ⟨h1, h2, h3⟩ := around_in hp hx ho
  have hpl : p < l.length := (List.getElem?_eq_some_iff.1 hx).1
  have hc : cdAt l p = x := by unfold cdAt; rw [hx]
  have hnb : opB (cdAt l p) = false := by
    rw [hc]
    simp only [opB, Bool.or_eq_false_iff, beq_eq_false_iff_ne]
    omega
  have he : ((cdAt l p).op == 12 || (cdAt l p).op == 14) = true := by
    rw [hc]
    simp only [Bool.or_eq_true, beq_iff_eq]
    exact ho
  refine ⟨(OR.at0 h.own).1 p _ ?_, ?_, ?_⟩
  · rw [ownRow_get _ _ _ _ hpl, if_pos hpl]
    simp [ownV, ownP, hnb, he, ptrV]
  all_goals (rw [cell_of_heap (h.bks _ (by omega) h3).2]; rfl)

theorem CM.pos {O : Nat → Prop} {w : World} {B n : Nat} {z : Gm} {c : Cw} {k p : Nat} {r ts : List Int} {b : Bool} (h : CM O w B n z (c.put k ⟨r, p, ts, b⟩)) (hB : B ≤ w.heap.size) (hk : k < n) (hkc : k < c.ls.length) (p' : Nat) :
    CM O (w.setCell ⟨z.lb, k * 4 + 1, none⟩ (.int .i64 p')) B n z (c.put k ⟨r, p', ts, b⟩) ∧ StC O B w (w.setCell ⟨z.lb, k * 4 + 1, none⟩ (.int .i64 p')) :=
  CM.put h hB (k := k) (j := 1) (v := .int .i64 p') (c' := c.put k ⟨r, p', ts, b⟩) hk (by decide) (by rw [put_lane hkc]; rfl)
    (fun i hi hne => by
      rw [put_lane hkc, put_lane hkc]
      match i, hne with
      | 0, _ => rfl
      | 2, _ => rfl
      | i + 3, _ => rfl)
    (fun i hi hne => by rw [put_other hne, put_other hne]) (by rw [put_lane hkc, put_lane hkc]) (by rw [put_lane hkc, put_lane hkc]) rfl
theorem set_last {ts : List Int} (h : ts ≠ []) (v : Int) : ts.set (ts.length - 1) v = ts.dropLast ++ [v] := by
  obtain ⟨a, x, rfl⟩ := List.eq_nil_or_concat ts |>.resolve_left h
  simp
theorem last_get {ts : List Int} (h : ts ≠ []) : ts[ts.length - 1]? = some (ts.getLastD 0) := by
  obtain ⟨a, x, rfl⟩ := List.eq_nil_or_concat ts |>.resolve_left h
  simp
theorem CM.turn {O : Nat → Prop} {w : World} {B n : Nat} {z : Gm} {c : Cw} (h : CM O w B n z c) {k : Nat} (hk : k < n) (hne : (c.lane k).turns ≠ []) : ∃ b, z.T k = some b ∧ w.cell? ⟨b, (c.lane k).turns.length - 1, none⟩ = some (.int .i64 ((c.lane k).turns.getLastD 0)) ∧ ∀ j, w.frozen? ⟨b, j, none⟩ = false := by
  have h1 := h.turns k hk
  cases hT : z.T k with
  | none =>
    rw [hT] at h1
    have hl := OI.len h1
    rcases h1.2 with hn | ⟨g, cap, cur, hv, _⟩
    · exfalso
      have h0 := hn.1
      injection h0 with _ h0 _
      exact hne (List.eq_nil_of_length_eq_zero h0)
    · simp [adr] at hv
  | some b =>
    rw [hT] at h1
    obtain ⟨cur, hc⟩ := OR.heap_ h1
    exact ⟨b, rfl, (OI.at0 h1).1 _ _ (last_get hne), fun j => free_of_heap hc j⟩

theorem turn_nums {len tc len1 : Nat} (h3 : len = len1 + 1) (hT : len ≤ 3) (hc : len ≤ tc) : wrap64 (len1 : Int) = (len1 : Int) ∧ (len1 : Int) < (tc : Int) ∧ (len1 : Int) ≤ (tc : Int) ∧ ¬ tc = 0 ∧ len1 < tc := by
  refine ⟨?_, by omega, by omega, by omega, by omega⟩
  exact IntWalk.wrap64_in _ (by omega)
theorem opAt_cd (l : List Cd) (f : Nat) : opAt l f = (cdAt l f).op := by
  unfold opAt cdAt
  cases l[f]? <;> rfl

set_option maxRecDepth 100000 in
set_option maxHeartbeats 4000000 in
theorem leave_c {O : Nat → Prop} {w : World} {B n mg : Nat} {A : Option Addr} {ca : Nat} {l : List Cd} {ob : Nat} {ga : Nat → Nat} {z : Gm} {c : Cw} (hm : MK w B mg A ca l ob ga) (h : CM O w B n z c) (hok : CwOk l n c) {k : Nat} (hk : k < n) (hp : pv l = true) (hB : B ≤ w.heap.size)
    (hlt : (c.lane k).pos < l.length) (hw : (c.lane k).waits = false) (ho : (cdAt l (c.lane k).pos).op = 14) :
    Calls Tryz.prog 123 #[.pointer (some ⟨mg, 0, none⟩), .pointer (some ⟨z.lb, k * 4, none⟩)] w fun e w' => e = .returned (.tuple #[]) ∧ ∃ z', CM O w' B n z' (stepAt l c k) ∧ (z'.lb = z.lb ∧ z'.lc = z.lc ∧ z'.mb = z.mb ∧ z'.mc = z.mc) ∧ StC O B w w' := by
  have hkc : k < c.ls.length := by rw [hok.len]; exact hk
  have hL := (hok.at_ hk).2
  have hSM := stepAt_move (l := l) (c := c) (k := k) (by omega)
  have hLP := fun h13 => hL.loop_ hp hlt ho h13
  have hl40 := (pv_iff.1 hp).1
  obtain ⟨hT1, hT2⟩ := hL.turns hp
  have h4 := hL.four
  have hxx : l[(c.lane k).pos]? = some (cdAt l (c.lane k).pos) := by unfold cdAt; rw [List.getElem?_eq_getElem hlt]
  obtain ⟨d0, d1⟩ := hm.cells
  obtain ⟨e0, e1, e2, e3⟩ := h.cells hk
  obtain ⟨b0, b1, b2⟩ := hm.own_close hp hxx (.inr ho)
  obtain ⟨-, a1, a2⟩ := around_in hp hxx (.inr ho)
  have HLN := Lib.hid (show c.lane k = ⟨(c.lane k).regs, (c.lane k).pos, (c.lane k).turns, false⟩ by rw [← hw])
  have hnx : nextP l (c.lane k).regs (c.lane k).pos (c.lane k).turns = if (cdAt l (aroundN l (c.lane k).pos)).op == 13 then
      (if decide (0 < (c.lane k).turns.getLastD 0) && !(rg (c.lane k).regs (cdAt l (aroundN l (c.lane k).pos)).a == 0) then (aroundN l (c.lane k).pos + 1, (c.lane k).turns.dropLast ++ [(c.lane k).turns.getLastD 0 - 1]) else ((c.lane k).pos + 1, (c.lane k).turns.dropLast))
    else ((c.lane k).pos + 1, (c.lane k).turns) := by
    have hop := opAt_cd l (aroundN l (c.lane k).pos)
    have e11 : ((cdAt l (c.lane k).pos).op == 11) = false := beq_eq_false_iff_ne.2 (by omega)
    have e12 : ((cdAt l (c.lane k).pos).op == 12) = false := beq_eq_false_iff_ne.2 (by omega)
    have e13 : ((cdAt l (c.lane k).pos).op == 13) = false := beq_eq_false_iff_ne.2 (by omega)
    have e14 : ((cdAt l (c.lane k).pos).op == 14) = true := beq_iff_eq.2 ho
    unfold nextP
    simp only [e11, e12, e13, e14, if_true, hop]
    rfl
  rw [hnx] at hSM
  have hLP2 : (cdAt l (aroundN l (c.lane k).pos)).op = 13 → (c.lane k).turns ≠ [] := fun h => hLP ((opAt_cd _ _).trans h)
  clear hnx hLP
  have HG := Lib.hid (hm.bks _ (show aroundN l (c.lane k).pos < l.length by omega) a2).2
  obtain ⟨lb, lo, y, hA, hbB, hy, l0, l1, l2, l3⟩ := hm.lst.at_ (show aroundN l (c.lane k).pos < l.length by omega)
  have hyd : cdAt l (aroundN l (c.lane k).pos) = y := by unfold cdAt; rw [hy]
  have hya := cvOk_a (show cvOk y = true by rw [← hyd]; exact cdAt_ok hp (by omega))
  rw [hyd] at hSM hLP2 a2
  rw [hA] at d0
  have hHC := Lib.hid h
  have HSM := Lib.hid hSM
  have HLP := Lib.hid hLP2
  have q1 := World.block_lt_of_cell? w _ d0
  have q2 := World.block_lt_of_cell? w _ e0
  have q3 := World.block_lt_of_cell? w _ b0
  have q4 := World.block_lt_of_cell? w _ l0
  have q5 := World.block_lt_of_cell? w _ b1
  simp only at q1 q2 q3 q4 q5
  have hposI : ((c.lane k).pos : Int) < (l.length : Int) := by omega
  have hfI : (aroundN l (c.lane k).pos : Int) < (l.length : Int) := by omega
  clear hA hm h hok hL hSM hLP2 hy hyd hxx ho
  generalize hpos : (c.lane k).pos = pos at *
  generalize aroundN l pos = f at *
  go_enter Tryz.func123, Tryz.ntmps123
  go_wp2_with fail
  go_quiet (fail)
  have hXq := Ext.drewN w nq
  have hC1 := hHC.out.ext hXq
  have hst1 := StC.of_ext (O := O) (B := B) hXq hB
  replace e0 := hXq.cell e0
  replace e1 := hXq.cell e1
  replace e2 := hXq.cell e2
  replace d0 := hXq.cell d0
  replace b1 := hXq.cell b1
  replace l0 := hXq.cell l0
  replace l1 := hXq.cell l1
  replace l2 := hXq.cell l2
  replace l3 := hXq.cell l3
  have hB1 : B ≤ (w.drewN nq).heap.size := hB
  replace q1 : mg < (w.drewN nq).heap.size := q1
  replace q2 : z.lb < (w.drewN nq).heap.size := q2
  replace q4 : lb < (w.drewN nq).heap.size := q4
  replace q5 : ga f < (w.drewN nq).heap.size := q5
  clear hXq d1 e3 b0 b2 q3
  generalize w.drewN nq = w1 at *
  have HC1 := Lib.hid hC1
  have HST1 := Lib.hid hst1
  clear hC1 hst1 hHC
  go_wp2_with fail
  go_region_held3 (fun w' => w'.cell? ⟨mg, 0, none⟩ = some (.slice (some ⟨lb, lo, none⟩) l.length ca) ∧ w'.cell? ⟨ga f, 0, none⟩ = some (.int .i64 f) ∧ w'.cell? ⟨lb, lo + f * 4, none⟩ = some (.int .i64 y.op) ∧ w'.cell? ⟨lb, lo + f * 4 + 1, none⟩ = some (.int .i64 y.a) ∧ w'.cell? ⟨lb, lo + f * 4 + 2, none⟩ = some (.int .i64 y.b) ∧ w'.cell? ⟨lb, lo + f * 4 + 3, none⟩ = some (.int .i64 y.c)) (first | go_keep | fail) (fail)
  rename_i hh
  clear hh
  have hX1 := (Ext.alloc w1 (.cells #[.int .i64 y.op, .int .i64 y.a, .int .i64 y.b, .int .i64 y.c] 76)).trans (Ext.drew _)
  have hN := (Ext.drew _).heap_ (heap_alloc_new w1 (.cells #[.int .i64 y.op, .int .i64 y.a, .int .i64 y.b, .int .i64 y.c] 76))
  generalize (w1.alloc (.cells #[.int .i64 y.op, .int .i64 y.a, .int .i64 y.b, .int .i64 y.c] 76)).drew = w2 at *
  have hC2 := HC1.out.ext hX1
  have hws := hX1.size
  have hxb : w1.heap.size < w2.heap.size := lt_of_block hN
  obtain ⟨a, haE⟩ := Int.eq_ofNat_of_zero_le hya.1
  have ha3 : a ≤ 3 := by omega
  have hB2 : B ≤ w2.heap.size := by omega
  have HST2 := Lib.hid (HST1.out.trans (StC.of_ext (O := O) (B := B) hX1 hB1))
  have HAE := Lib.hid haE
  rw [haE] at hN
  replace e1 := hX1.cell e1
  replace b1 := hX1.cell b1
  have f1 := hC2.free (k * 4 + 1)
  have HC2 := Lib.hid hC2
  clear haE hX1 hC2 e0 e2 d0 l0 l1 l2 l3 q1 q2 q4 q5 HC1 HST1 hya
  have HN := Lib.hid hN
  clear hN
  generalize w1.heap.size = xb at *
  go_upto_region 3 with (fail)
  have hCp : CM O w2 B n z (c.put k ⟨(c.lane k).regs, pos, (c.lane k).turns, false⟩) := by rw [← HLN.out, put_self hkc]; exact HC2.out
  have hC3 := hCp.pos hB2 hk hkc (pos + 1)
  have hN3 := hC3.2.byt _ _ _ (by decide) (by decide) HN.out
  rw [show (((pos + 1 : Nat) : Int)) = (pos : Int) + 1 from rfl] at hC3 hN3
  have hB3 := Nat.le_trans hB2 hC3.2.size
  have hb1 := hC3.2.byt (ga f)
  clear e1 f1
  generalize w2.setCell ⟨z.lb, k * 4 + 1, none⟩ (.int .i64 ((pos : Int) + 1)) = w3 at *
  have HC3 := Lib.hid hC3.1
  have HST3 := Lib.hid (HST2.out.trans hC3.2)
  have hn0 := cell_of_heap hN3 0
  have hn1 := cell_of_heap hN3 1
  clear hC3 hN3 HST2 HC2 HN hws hCp
  have HKC := Lib.hid hkc
  clear hkc
  by_cases h13 : y.op = 13
  · have hop : (y.op != 13) = false := by simp [h13]
    have hop2 : (y.op == 13) = true := by simp [h13]
    have hne := HLP.out h13
    obtain ⟨e0, e1, e2, -⟩ := HC3.out.cells hk
    obtain ⟨tb, htb, t1, tf⟩ := HC3.out.turn hk (by rw [put_lane HKC.out]; exact hne)
    have hreg := HC3.out.reg hk ha3 (by rw [put_lane HKC.out]; exact h4)
    rw [put_lane HKC.out] at e1 e2 t1 hreg
    simp only at e1 e2 t1 hreg
    have htp : 0 < (c.lane k).turns.length := List.length_pos_iff.2 hne
    have hlast := hT2 ((c.lane k).turns.getLastD 0) (List.mem_of_getElem? (last_get hne))
    have hss := HSM.out
    rw [hop2] at hss
    simp only [if_true] at hss
    rw [HAE.out] at hss
    have HNE := Lib.hid hne
    rw [htb] at e2
    have f1 := HC3.out.free (k * 4 + 1)
    have f2 := HC3.out.free (k * 4 + 2)
    have ft := tf ((c.lane k).turns.length - 1)
    have hlenI : ((c.lane k).turns.length : Int) - 1 = (((c.lane k).turns.length - 1 : Nat) : Int) := by omega
    have htbl := World.block_lt_of_cell? w3 _ t1
    have hcap := OR.cap_ (HC3.out.turns k hk)
    rw [put_lane HKC.out] at hcap
    simp only at hcap
    have HTB := Lib.hid htb
    have HLS := Lib.hid (last_get hne)
    have HSL := Lib.hid (fun v => set_last hne v)
    have HPOP : ∀ q, Hid (CM O ((w3.drewN q).setCell ⟨z.lb, k * 4 + 2, none⟩ (.slice (some ⟨tb, 0, none⟩) ((c.lane k).turns.length - 1) (z.TC k))) B n z (c.put k ⟨(c.lane k).regs, pos + 1, (c.lane k).turns.dropLast, false⟩) ∧
        StC O B w ((w3.drewN q).setCell ⟨z.lb, k * 4 + 2, none⟩ (.slice (some ⟨tb, 0, none⟩) ((c.lane k).turns.length - 1) (z.TC k)))) := fun q => Lib.hid (by
      have hd := HC3.out.ext (Ext.drewN w3 q)
      have := CM.pop hd hk (c' := c.put k ⟨(c.lane k).regs, pos + 1, (c.lane k).turns.dropLast, false⟩) (by rw [put_lane HKC.out, put_lane HKC.out]) (by rw [put_lane HKC.out, put_lane HKC.out]; exact ⟨rfl, rfl, rfl⟩) (fun i _ hi => by rw [put_other hi, put_other hi]) rfl
      rw [put_lane HKC.out, htb] at this
      exact ⟨this.1, HST3.out.trans ((StC.of_ext (Ext.drewN w3 q) hB3).trans this.2)⟩)
    clear hne htb
    generalize hgv : (c.lane k).turns.getLastD 0 = v at *
    generalize hra : rg (c.lane k).regs (a : Int) = ra at *
    generalize hlen : (c.lane k).turns.length - 1 = len1 at *
    have hlen3 : (c.lane k).turns.length = len1 + 1 := by omega
    obtain ⟨hw1, hcI, hcI2, hc0, hcN⟩ := turn_nums hlen3 hT1 hcap
    have HL3 := Lib.hid hlen3
    rw [hlen3, show adr (some tb) = some (⟨tb, 0, none⟩ : Addr) from rfl] at e2
    clear hlenI hlen htp hT1 hgv hra hlen3 hcap
    by_cases hz0 : ra = 0
    · have hz1 : (ra != 0) = false := by simp [hz0]
      have hz2 : (ra == 0) = true := by simp [hz0]
      rw [hz2] at hss
      simp only [Bool.not_true, Bool.and_false] at hss
      have HSS := Lib.hid hss
      clear hss hz0 hz2
      go_wp2_with fail
      go_quiet (fail)
      go_wp2
      go_end0
      refine ⟨rfl, z, ?_, ⟨rfl, rfl, rfl, rfl⟩, (HPOP _).out.2⟩
      rw [HSS.out]
      exact (HPOP _).out.1
    · have hz1 : (ra != 0) = true := by simp [hz0]
      have hz2 : (ra == 0) = false := by simp [hz0]
      rw [hz2] at hss
      simp only [Bool.not_false, Bool.and_true, decide_eq_true_eq] at hss
      clear hz0 hz2
      by_cases hv : 0 < v
      · rw [if_pos hv] at hss
        have HSS := Lib.hid hss
        clear hss
        go_wp2_with fail
        go_quiet (fail)
        go_upto_region 7 with (fail)
        have hlt1 : len1 < (c.lane k).turns.length := by rw [HL3.out]; omega
        have hdec := CM.dec (HC3.out.ext (Ext.drewN w3 nq)) hk HTB.out (j := len1) (v := v - 1) (c' := c.put k ⟨(c.lane k).regs, pos + 1, (c.lane k).turns.set len1 (v - 1), false⟩) (by rw [put_lane HKC.out]; exact hlt1) (by rw [put_lane HKC.out, put_lane HKC.out]) (by rw [put_lane HKC.out, put_lane HKC.out]; exact ⟨rfl, rfl, rfl⟩) (fun i _ hi => by rw [put_other hi, put_other hi]) rfl
        have hst5 := HST3.out.trans ((StC.of_ext (Ext.drewN w3 nq) hB3).trans hdec.2)
        have hg5 := hst5.byt _ _ _ (by decide) (by decide) HG.out
        have hB5 := Nat.le_trans hB hst5.size
        have hC5 := hdec.1
        clear hdec e0 e1 e2 t1 hreg f1 f2 ft hn0 hn1 htbl tf hlt1 HPOP
        generalize (w3.drewN nq).setCell ⟨tb, len1, none⟩ (.int .i64 (v - 1)) = w5 at *
        have g0 := cell_of_heap hg5 0
        have e1 := (hC5.cells hk).2.1
        have f1 := hC5.free (k * 4 + 1)
        rw [put_lane HKC.out] at e1
        have HC5 := Lib.hid hC5
        have HST5 := Lib.hid hst5
        clear hg5 hC5 hst5
        go_wp2
        ((try simp only [Exit.inBlock, Exit.then]); refine bodyPost_ret (results_none rfl _ _ _) rfl ?_)
        have hfin := HC5.out.pos hB5 hk HKC.out (f + 1)
        refine ⟨rfl, z, ?_, ⟨rfl, rfl, rfl, rfl⟩, HST5.out.trans hfin.2⟩
        rw [HSS.out, ← HSL.out]
        exact hfin.1
      · rw [if_neg hv] at hss
        have HSS := Lib.hid hss
        clear hss
        go_wp2_with fail
        go_quiet (fail)
        go_wp2
        go_end0
        refine ⟨rfl, z, ?_, ⟨rfl, rfl, rfl, rfl⟩, (HPOP _).out.2⟩
        rw [HSS.out]
        exact (HPOP _).out.1
  · have hop : (y.op != 13) = true := by simp [h13]
    have hop2 : (y.op == 13) = false := by simp [h13]
    have hss := HSM.out
    rw [hop2] at hss
    have HSS := Lib.hid hss
    clear hss h13
    go_wp2
    ((try simp only [Exit.inBlock, Exit.then]); refine bodyPost_ret (results_none rfl _ _ _) rfl ?_)
    refine ⟨rfl, z, ?_, ⟨rfl, rfl, rfl, rfl⟩, HST3.out⟩
    rw [HSS.out]
    exact HC3.out


def SmG (z' z : Gm) : Prop := z'.lb = z.lb ∧ z'.lc = z.lc ∧ z'.mb = z.mb ∧ z'.mc = z.mc
theorem SmG.refl (z : Gm) : SmG z z := ⟨rfl, rfl, rfl, rfl⟩
theorem SmG.trans {a b c : Gm} (h : SmG a b) (k : SmG b c) : SmG a c := ⟨h.1.trans k.1, h.2.1.trans k.2.1, h.2.2.1.trans k.2.2.1, h.2.2.2.trans k.2.2.2⟩
def StepP (O : Nat → Prop) (w : World) (B n : Nat) (z : Gm) (c' : Cw) (e : Ending) (w' : World) : Prop :=
  e = .returned (.tuple #[]) ∧ ∃ z', CM O w' B n z' c' ∧ SmG z' z ∧ StC O B w w'

set_option maxRecDepth 100000 in
set_option maxHeartbeats 8000000 in
theorem step_c {O : Nat → Prop} {w : World} {B n mg : Nat} {A : Option Addr} {ca : Nat} {l : List Cd} {ob : Nat} {ga : Nat → Nat} {z : Gm} {c : Cw} (hm : MK w B mg A ca l ob ga) (h : CM O w B n z c) (hok : CwOk l n c) {k mn : Nat} (hk : k < n) (hn8 : n ≤ 8) (hp : pv l = true) (hB : B ≤ w.heap.size) (hmn : mn = c.mem.length) (hml : 1 ≤ mn ∧ mn ≤ 32) :
    Calls Tryz.prog 95 #[.pointer (some ⟨mg, 0, none⟩), .pointer (some ⟨z.lb, k * 4, none⟩), .int .i64 k, .slice (some ⟨z.mb, 0, none⟩) mn z.mc] w (StepP O w B n z (stepIf l c k)) := by
  subst hmn
  obtain ⟨e0, e1, e2, e3⟩ := h.cells hk
  have hL := (hok.at_ hk).2
  have hpl := (hL.pos_le hp).1
  have hl40 := (pv_iff.1 hp).1
  by_cases hw : (c.lane k).waits = true
  · have hg : stepIf l c k = c := by unfold stepIf goesL; rw [hw]; rfl
    rw [hg]
    rw [hw] at e3
    have hg2 := Lib.hid h
    clear hm hok hL hpl hg hw e0 e1 e2
    go_enter Tryz.func95, Tryz.ntmps95
    go_wp2
    ((try simp only [Exit.inBlock, Exit.then]); refine bodyPost_ret (results_none rfl _ _ _) rfl ?_)
    exact ⟨rfl, z, hg2.out, SmG.refl _, StC.refl _ _⟩
  · have hw : (c.lane k).waits = false := by simpa using hw
    have HW := Lib.hid hw
    rw [hw] at e3
    clear hw
    by_cases hlt : (c.lane k).pos = l.length
    · have hg : stepIf l c k = c := by unfold stepIf goesL; rw [hlt]; simp
      have hd : (((c.lane k).pos : Int) == (l.length : Int)) = true := by simp [hlt]
      have HM := Lib.hid hm
      have HC := Lib.hid h
      rw [hg]
      clear hm h hok hlt hg
      go_enter Tryz.func95, Tryz.ntmps95
      go_wp2_with fail
      refine (isDone_c HM.out HC.out hk).mono ?_
      rintro e w1 ⟨rfl, hx⟩
      rw [hd]
      have hC1 := Lib.hid (HC.out.ext hx)
      have hst := Lib.hid (StC.of_ext (O := O) (B := B) hx hB)
      clear hx
      go_wp2
      ((try simp only [Exit.inBlock, Exit.then]); refine bodyPost_ret (results_none rfl _ _ _) rfl ?_)
      exact ⟨rfl, z, hC1.out, SmG.refl _, hst.out⟩
    · have hlt2 : (c.lane k).pos < l.length := by omega
      have hg : stepIf l c k = stepAt l c k := by unfold stepIf goesL; rw [HW.out]; simp [hlt2]
      have hd : (((c.lane k).pos : Int) == (l.length : Int)) = false := by simp; omega
      have HM := Lib.hid hm
      have HC := Lib.hid h
      have HOK := Lib.hid hok
      rw [hg]
      clear hm h hok hlt hg e0 e1 e2 e3
      obtain ⟨e0, e1, e2, e3⟩ := HC.out.cells hk
      rw [HW.out] at e3
      go_enter Tryz.func95, Tryz.ntmps95
      go_wp2_with fail
      refine (isDone_c HM.out HC.out hk).mono ?_
      rintro e w1 ⟨rfl, hx⟩
      rw [hd]
      clear e0 e1 e2 e3
      obtain ⟨y, hy⟩ : ∃ y, l[(c.lane k).pos]? = some y := ⟨_, List.getElem?_eq_getElem hlt2⟩
      have hyd : cdAt l (c.lane k).pos = y := by unfold cdAt; rw [hy]
      have HM1 := Lib.hid (HM.out.ext hx hB)
      have HC1 := Lib.hid (HC.out.ext hx)
      have hB1 := Nat.le_trans hB hx.size
      have HST1 := Lib.hid (StC.of_ext (O := O) (B := B) hx hB)
      clear hx HM HC
      obtain ⟨e0, e1, e2, e3⟩ := HC1.out.cells hk
      obtain ⟨d0, d1⟩ := HM1.out.cells
      obtain ⟨lb, lo, y', hA, hbB, hy', l0, l1, l2, l3⟩ := HM1.out.lst.at_ hlt2
      obtain rfl : y = y' := by rw [hy] at hy'; exact Option.some.inj hy'
      rw [hA] at d0
      have HA := Lib.hid hA
      have HY := Lib.hid hy
      have HYD := Lib.hid hyd
      have hv : cvOk y = true := by rw [← hyd]; exact cdAt_ok hp hlt2
      have HV := Lib.hid hv
      have q1 := World.block_lt_of_cell? w1 _ d0
      have q2 := World.block_lt_of_cell? w1 _ e0
      have q4 := World.block_lt_of_cell? w1 _ l0
      simp only at q1 q2 q4
      have hltI : ((c.lane k).pos : Int) < (l.length : Int) := by omega
      clear hA hy hyd hy' d1 hv
      generalize hpos : (c.lane k).pos = pos at *
      go_wp2_with fail
      go_region_held3 (fun w' => w'.cell? ⟨mg, 0, none⟩ = some (.slice (some ⟨lb, lo, none⟩) l.length ca) ∧ w'.cell? ⟨z.lb, k * 4 + 1, none⟩ = some (.int .i64 pos) ∧ w'.cell? ⟨lb, lo + pos * 4, none⟩ = some (.int .i64 y.op) ∧ w'.cell? ⟨lb, lo + pos * 4 + 1, none⟩ = some (.int .i64 y.a) ∧ w'.cell? ⟨lb, lo + pos * 4 + 2, none⟩ = some (.int .i64 y.b) ∧ w'.cell? ⟨lb, lo + pos * 4 + 3, none⟩ = some (.int .i64 y.c)) (first | go_keep | fail) (fail)
      rename_i hh
      clear hh
      have hX1 := (Ext.alloc w1 (.cells #[.int .i64 y.op, .int .i64 y.a, .int .i64 y.b, .int .i64 y.c] 76)).trans (Ext.drew _)
      have hN := (Ext.drew _).heap_ (heap_alloc_new w1 (.cells #[.int .i64 y.op, .int .i64 y.a, .int .i64 y.b, .int .i64 y.c] 76))
      generalize (w1.alloc (.cells #[.int .i64 y.op, .int .i64 y.a, .int .i64 y.b, .int .i64 y.c] 76)).drew = w2 at *
      have HM2 := Lib.hid (HM1.out.ext hX1 hB1)
      have HC2 := Lib.hid (HC1.out.ext hX1)
      have hB2 := Nat.le_trans hB1 hX1.size
      have HST2 := Lib.hid (HST1.out.trans (StC.of_ext (O := O) (B := B) hX1 hB1))
      have hn0 := cell_of_heap hN 0
      have hxb : w1.heap.size < w2.heap.size := lt_of_block hN
      have HN := Lib.hid hN
      clear hX1 hN HM1 HC1 HST1 hB1 l0 l1 l2 l3 e0 e1 e2 e3 d0 q1 q2 q4
      generalize w1.heap.size = xb at *
      have h1 := cvOk_op HV.out
      by_cases h11 : y.op = 11
      · have t11 : (y.op == 11) = true := beq_iff_eq.2 h11
        have HO := Lib.hid (show opB (cdAt l (c.lane k).pos) = true by rw [hpos, HYD.out]; simp [opB, h11])
        clear h11
        go_wp2_with fail
        refine (enter_c HM2.out HC2.out HOK.out hk hp hB2 (by omega) HW.out HO.out).mono ?_
        rintro e w3 ⟨rfl, z3, hC3, hz3, hst3⟩
        go_wp2
        go_end0
        exact ⟨rfl, z3, hC3, hz3, HST2.out.trans hst3⟩
      · have t11 : (y.op == 11) = false := beq_eq_false_iff_ne.2 h11
        by_cases h13 : y.op = 13
        · have t13 : (y.op == 13) = true := beq_iff_eq.2 h13
          have HO := Lib.hid (show opB (cdAt l (c.lane k).pos) = true by rw [hpos, HYD.out]; simp [opB, h13])
          clear h13 h11
          go_wp2_with fail
          refine (enter_c HM2.out HC2.out HOK.out hk hp hB2 (by omega) HW.out HO.out).mono ?_
          rintro e w3 ⟨rfl, z3, hC3, hz3, hst3⟩
          go_wp2
          go_end0
          exact ⟨rfl, z3, hC3, hz3, HST2.out.trans hst3⟩
        · have t13 : (y.op == 13) = false := beq_eq_false_iff_ne.2 h13
          by_cases h12 : y.op = 12
          · have t12 : (y.op == 12) = true := beq_iff_eq.2 h12
            obtain ⟨g0, g1, g2⟩ := HM2.out.own_close hp HY.out (.inl h12)
            obtain ⟨-, r1, r2⟩ := around_in hp HY.out (.inl h12)
            have r3 : aroundN l pos < l.length := by omega
            obtain ⟨p1, p2, p3⟩ := pEnd_bound hp (show l[aroundN l pos]? = some (cdAt l (aroundN l pos)) by unfold cdAt; rw [List.getElem?_eq_getElem r3]) r2
            have HSM := Lib.hid (show stepAt l c k = c.put k ⟨(c.lane k).regs, endN l (aroundN l pos) + 1, (c.lane k).turns, false⟩ by
              have e1 := stepAt_move (l := l) (c := c) (k := k) (by rw [hpos, HYD.out]; omega)
              rw [e1, hpos]
              have e2 : nextP l (c.lane k).regs pos (c.lane k).turns = (endN l (aroundN l pos) + 1, (c.lane k).turns) := by
                unfold nextP
                rw [HYD.out, t11, t12]
                rfl
              rw [e2])
            have hpe : pEnd l (aroundN l pos) = endN l (aroundN l pos) := rfl
            obtain ⟨d0, d1⟩ := HM2.out.cells
            obtain ⟨e0, e1, e2, e3⟩ := HC2.out.cells hk
            rw [hpos] at e1
            have f1 := HC2.out.free (k * 4 + 1)
            rw [p1, hpe] at g2
            rw [hpe] at p2 p3
            have hpo : (c.lane k) = ⟨(c.lane k).regs, pos, (c.lane k).turns, false⟩ := by rw [← hpos, ← HW.out]
            have HPO := Lib.hid hpo
            clear h11 h12 h13 p1 hpe r1 r2 r3 hpo
            generalize endN l (aroundN l pos) = en at *
            generalize aroundN l pos = f at *
            go_wp2_with fail
            go_still_tail 17, (by kernel_rfl)
            go_wp2
            go_end0
            have hX := Ext.drew w2
            have hC := HC2.out.ext hX
            rw [← put_self (show k < c.ls.length by rw [HOK.out.len]; exact hk), HPO.out] at hC
            have hfin := hC.pos (Nat.le_trans hB2 hX.size) hk (by rw [HOK.out.len]; exact hk) (en + 1)
            refine ⟨rfl, z, ?_, SmG.refl _, HST2.out.trans ((StC.of_ext hX hB2).trans hfin.2)⟩
            rw [HSM.out]
            exact hfin.1
          · have t12 : (y.op == 12) = false := beq_eq_false_iff_ne.2 h12
            by_cases h14 : y.op = 14
            · have t14 : (y.op == 14) = true := beq_iff_eq.2 h14
              have HO := Lib.hid (show (cdAt l (c.lane k).pos).op = 14 by rw [hpos, HYD.out]; exact h14)
              clear h11 h12 h13 h14
              go_wp2_with fail
              refine (leave_c HM2.out HC2.out HOK.out hk hp hB2 (by omega) HW.out HO.out).mono ?_
              rintro e w3 ⟨rfl, z3, hC3, hz3, hst3⟩
              go_wp2
              go_end0
              exact ⟨rfl, z3, hC3, hz3, HST2.out.trans hst3⟩
            · have t14 : (y.op == 14) = false := beq_eq_false_iff_ne.2 h14
              have H10 := Lib.hid (show y.op ≤ 10 by omega)
              have HSM := Lib.hid (stepAt_simple (l := l) (c := c) (k := k) (by rw [hpos, HYD.out]; exact H10.out))
              clear h11 h12 h13 h14
              obtain ⟨e0, e1, e2, e3⟩ := HC2.out.cells hk
              have hn1 := cell_of_heap HN.out 1
              have hn2 := cell_of_heap HN.out 2
              have hn3 := cell_of_heap HN.out 3
              go_wp2_with fail
              go_still_tail 7, (by kernel_rfl)
              go_wp2_with fail
              have hX := Ext.drew w2
              have hCd := HC2.out.ext hX
              have hBd := Nat.le_trans hB2 hX.size
              refine (compute_c y k (c.lane k).regs c.mem B (z.R k) (z.RC k) z.mb z.mc c.mem.length _ HV.out H10.out (by omega) (hCd.regs k hk) hCd.mem (hCd.rm k hk) (HOK.out.at_ hk).2.words HOK.out.words hml).mono ?_
              rintro e w3 ⟨rfl, hs⟩
              have hlen := simp1_len y k (c.lane k).regs c.mem
              have hsp := CM.simp hCd hBd hk rfl (x := y) (c' := (⟨c.ls, (simp1 y k (c.lane k).regs c.mem).2⟩ : Cw).put k ⟨(simp1 y k (c.lane k).regs c.mem).1, pos, (c.lane k).turns, false⟩) hs (by rw [put_lane (by rw [HOK.out.len]; exact hk)]) rfl
                (by rw [put_lane (by rw [HOK.out.len]; exact hk)]; exact ⟨hpos.symm, rfl, HW.out.symm⟩) (fun i _ hi => by rw [put_other hi]; rfl)
              have hB3 := Nat.le_trans hBd hsp.2.size
              have HST3 := Lib.hid (HST2.out.trans ((StC.of_ext hX hB2).trans hsp.2))
              have hN3 := hsp.2.byt _ _ _ (by decide) (by decide) (hX.heap_ HN.out)
              have hC3 := hsp.1
              obtain ⟨-, e1', -, e3'⟩ := hC3.cells hk
              rw [put_lane (by rw [HOK.out.len]; exact hk)] at e1' e3'
              have f1' := hC3.free (k * 4 + 1)
              have f3' := hC3.free (k * 4 + 3)
              have hn0' := cell_of_heap hN3 0
              have HC3 := Lib.hid hC3
              clear hX hCd hBd hs hsp hN3 hC3 e0 e1 e2 e3 hn0 hn1 hn2 hn3 hlen
              go_wp2
              go_end0
              have hkl : k < (⟨c.ls, (simp1 y k (c.lane k).regs c.mem).2⟩ : Cw).ls.length := by show k < c.ls.length; rw [HOK.out.len]; exact hk
              have hp1 := CM.put HC3.out hB3 (k := k) (j := 3) (v := .bool (y.op == 10)) (c' := (⟨c.ls, (simp1 y k (c.lane k).regs c.mem).2⟩ : Cw).put k ⟨(simp1 y k (c.lane k).regs c.mem).1, pos, (c.lane k).turns, y.op == 10⟩) hk (by decide) (by rw [put_lane hkl]; rfl)
                (fun i hi hne => by
                  rw [put_lane hkl, put_lane hkl]
                  have : i = 0 ∨ i = 1 ∨ i = 2 := by omega
                  rcases this with rfl | rfl | rfl <;> rfl)
                (fun i hi hne => by rw [put_other hne, put_other hne]) (by rw [put_lane hkl, put_lane hkl]) (by rw [put_lane hkl, put_lane hkl]) rfl
              have hp2 := hp1.1.pos (Nat.le_trans hB3 hp1.2.size) hk hkl (pos + 1)
              refine ⟨rfl, z, ?_, SmG.refl _, HST3.out.trans (hp1.2.trans hp2.2)⟩
              have e := HSM.out
              rw [hpos, HYD.out] at e
              rw [e]
              exact hp2.1


/-- A machine and a crowd in memory. -/
structure CS (O : Nat → Prop) (w : World) (B n mg cb : Nat) (A : Option Addr) (ca : Nat) (l : List Cd) (ob : Nat) (ga : Nat → Nat) (z : Gm) (c : Cw) : Prop where
  mach : MK w B mg A ca l ob ga
  cm : CM O w B n z c
  ok : CwOk l n c
  blk : w.heap[cb]? = some (.cells #[.slice (some ⟨z.lb, 0, none⟩) n z.lc, .slice (some ⟨z.mb, 0, none⟩) c.mem.length z.mc] 67 (0, 0))
  cB : B ≤ cb
  hB : B ≤ w.heap.size
section
variable {O : Nat → Prop} {w w' : World} {B n mg cb : Nat} {A : Option Addr} {ca : Nat} {l : List Cd} {ob : Nat} {ga : Nat → Nat} {z z' : Gm} {c c' : Cw}
theorem CS.next (h : CS O w B n mg cb A ca l ob ga z c) (hc : CM O w' B n z' c') (hz : SmG z' z) (hs : StC O B w w') (hk : CwOk l n c') (hm : c'.mem.length = c.mem.length) : CS O w' B n mg cb A ca l ob ga z' c' :=
  ⟨h.mach.stc hs, hc, hk, by rw [hz.1, hz.2.1, hz.2.2.1, hz.2.2.2, hm]; exact hs.byt _ _ _ (by decide) (by decide) h.blk, h.cB, Nat.le_trans h.hB hs.size⟩
theorem CS.ext (h : CS O w B n mg cb A ca l ob ga z c) (hx : Ext w w') : CS O w' B n mg cb A ca l ob ga z c :=
  h.next (h.cm.ext hx) (SmG.refl _) (StC.of_ext hx h.hB) h.ok rfl
theorem CS.cells (h : CS O w B n mg cb A ca l ob ga z c) : w.cell? ⟨cb, 0, none⟩ = some (.slice (some ⟨z.lb, 0, none⟩) n z.lc) ∧ w.cell? ⟨cb, 1, none⟩ = some (.slice (some ⟨z.mb, 0, none⟩) c.mem.length z.mc) := by
  constructor <;> (rw [cell_of_heap h.blk]; rfl)
end

theorem goes_c {O : Nat → Prop} {w : World} {B n mg : Nat} {A : Option Addr} {ca : Nat} {l : List Cd} {ob : Nat} {ga : Nat → Nat} {z : Gm} {c : Cw} (hm : MK w B mg A ca l ob ga) (h : CM O w B n z c) (hok : CwOk l n c) {k : Nat} (hk : k < n) (hp : pv l = true) :
    Calls Tryz.prog 94 #[.pointer (some ⟨mg, 0, none⟩), .pointer (some ⟨z.lb, k * 4, none⟩)] w fun e w' => e = .returned (.bool (goesL l (c.lane k))) ∧ Ext w w' := by
  obtain ⟨-, -, -, e3⟩ := h.cells hk
  have hpl := ((hok.at_ hk).2.pos_le hp).1
  have HM := Lib.hid hm
  have HC := Lib.hid h
  clear hm h hok
  by_cases hw : (c.lane k).waits = true
  · have hg : goesL l (c.lane k) = false := by unfold goesL; rw [hw]; rfl
    rw [hw] at e3
    rw [hg]
    clear hw hg hpl
    go_enter Tryz.func94, Tryz.ntmps94
    go_wp2
    go_ret
    exact ⟨rfl, Ext.refl _⟩
  · have hw : (c.lane k).waits = false := by simpa using hw
    have hg : goesL l (c.lane k) = !(((c.lane k).pos : Int) == (l.length : Int)) := by
      unfold goesL
      rw [hw]
      by_cases e : (c.lane k).pos = l.length
      · simp [e]
      · have h1 : (((c.lane k).pos : Int) == (l.length : Int)) = false := by simp; omega
        rw [h1]; simp; omega
    rw [hw] at e3
    rw [hg]
    clear hw hg hpl
    go_enter Tryz.func94, Tryz.ntmps94
    go_wp2_with fail
    refine (isDone_c HM.out HC.out hk).mono ?_
    rintro e w1 ⟨rfl, hx⟩
    have HX := Lib.hid hx
    clear hx
    go_wp2
    go_ret
    exact ⟨rfl, HX.out⟩

def PsRel1 (w : World) (n : Nat) (l : List Cd) (c : Cw) (kv : Value) (wr : World) : Prop :=
  ∃ i : Nat, i ≤ n ∧ kv = .int .i64 i ∧ Hid (∀ j, j < i → goesL l (c.lane j) = false) ∧ Ext w wr
def PsRel2 (O : Nat → Prop) (w : World) (B n mg cb : Nat) (A : Option Addr) (ca : Nat) (l : List Cd) (ob : Nat) (ga : Nat → Nat) (z : Gm) (c : Cw) (kv : Value) (wr : World) : Prop :=
  ∃ i : Nat, i ≤ n ∧ kv = .int .i64 i ∧ CM O wr B n z (freeTo c i) ∧ StC O B w wr ∧ wr.heap[cb]? = some (.cells #[.slice (some ⟨z.lb, 0, none⟩) n z.lc, .slice (some ⟨z.mb, 0, none⟩) c.mem.length z.mc] 67 (0, 0))

set_option maxRecDepth 100000 in
set_option maxHeartbeats 4000000 in
theorem pass_c {O : Nat → Prop} {w : World} {B n mg cb : Nat} {A : Option Addr} {ca : Nat} {l : List Cd} {ob : Nat} {ga : Nat → Nat} {z : Gm} {c : Cw} (h : CS O w B n mg cb A ca l ob ga z c) (hp : pv l = true) (hn : n ≤ 8) :
    Calls Tryz.prog 96 #[.pointer (some ⟨mg, 0, none⟩), .pointer (some ⟨cb, 0, none⟩)] w fun e w' => e = .returned (.tuple #[]) ∧ CS O w' B n mg cb A ca l ob ga z (passC l c) ∧ StC O B w w' := by
  obtain ⟨c0, c1⟩ := h.cells
  have HS := Lib.hid h
  clear h
  go_enter Tryz.func96, Tryz.ntmps96
  go_wp2
  go_loopw [11] (fun kv wr => PsRel1 w n l c kv wr) (fun kv _ => n - (intOf kv).toNat)
  case atStart => exact ⟨0, Nat.zero_le _, rfl, Lib.hid (fun j hj => absurd hj (Nat.not_lt_zero _)), Ext.refl _⟩
  case round =>
    obtain ⟨i, hi, rfl, HG, hx⟩ := hrel
    have HSr := Lib.hid (HS.out.ext hx)
    have HX := Lib.hid hx
    have c0' := hx.cell c0
    clear hx c0 c1
    by_cases hlt : i < n
    · have hiI : (i : Int) < (n : Int) := by omega
      cases hg : goesL l (c.lane i) with
      | true =>
        have HGI := Lib.hid hg
        go_wp2_with fail
        refine (goes_c HSr.out.mach HSr.out.cm HSr.out.ok hlt hp).mono ?_
        rintro e w1 ⟨rfl, hx1⟩
        rw [hg]
        clear hg
        have HX1 := Lib.hid (HX.out.trans hx1)
        clear hx1
        go_wp2
        ((try simp only [Exit.inBlock, Exit.then]); refine bodyPost_ret (results_none rfl _ _ _) rfl ?_)
        rw [pass_go (by rw [HS.out.ok.len]; exact hlt) HGI.out]
        exact ⟨rfl, HS.out.ext HX1.out, StC.of_ext HX1.out HS.out.hB⟩
      | false =>
        have HG2 := Lib.hid (show ∀ j, j < i + 1 → goesL l (c.lane j) = false from fun j hj => by
          by_cases e : j = i
          · rw [e]; exact hg
          · exact HG.out j (by omega))
        go_wp2_with fail
        refine (goes_c HSr.out.mach HSr.out.cm HSr.out.ok hlt hp).mono ?_
        rintro e w1 ⟨rfl, hx1⟩
        rw [hg]
        clear hg
        have HX1 := Lib.hid (HX.out.trans hx1)
        clear hx1
        go_wp2
        go_roundw
        case rel => exact ⟨i + 1, by omega, by go_num, HG2, HX1.out⟩
        case measure => simp [intOf]; omega
    · obtain rfl : i = n := by omega
      have hnI : ¬ ((i : Int) < (i : Int)) := by omega
      have hCM : CM O wr B i z (freeTo c 0) := by rw [freeTo_zero]; exact HSr.out.cm
      have hcb := HSr.out.blk
      have hstx := StC.of_ext (O := O) HX.out HS.out.hB
      have hSz : B ≤ wr.heap.size := HSr.out.hB
      rename_i wr1
      go_wp2
      go_loopw [28] (fun kv wr => PsRel2 O w B i mg cb A ca l ob ga z c kv wr) (fun kv _ => i - (intOf kv).toNat)
      case atStart => exact ⟨0, Nat.zero_le _, rfl, hCM, hstx, hcb⟩
      case round =>
        clear hCM hcb hstx c0'
        obtain ⟨j, hj, rfl, hC, hst, hcb⟩ := hrel
        have c0 := cell_of_heap hcb 0
        have hBr := Nat.le_trans HS.out.hB hst.size
        by_cases hlt : j < i
        · have hjI : (j : Int) < (i : Int) := by omega
          have f3 := hC.free (j * 4 + 3)
          obtain ⟨-, -, -, e3⟩ := hC.cells hlt
          have hjl : j < c.ls.length := by rw [HS.out.ok.len]; exact hlt
          have hput := CM.put hC hBr (k := j) (j := 3) (v := .bool false) (c' := freeTo c (j + 1)) hlt (by decide) (by rw [freeTo_lane hjl, if_pos (by omega)]; rfl)
            (fun q hq hne => by
              rw [freeTo_lane hjl, if_pos (by omega), freeTo_lane hjl, if_neg (by omega)]
              have : q = 0 ∨ q = 1 ∨ q = 2 := by omega
              rcases this with rfl | rfl | rfl <;> rfl)
            (fun q hq hne => by
              have hql : q < c.ls.length := by rw [HS.out.ok.len]; exact hq
              rw [freeTo_lane hql, freeTo_lane hql]
              by_cases e : q < j
              · rw [if_pos e, if_pos (by omega)]
              · rw [if_neg e, if_neg (by omega)])
            (by rw [freeTo_lane hjl, if_pos (by omega), freeTo_lane hjl, if_neg (by omega)]) (by rw [freeTo_lane hjl, if_pos (by omega), freeTo_lane hjl, if_neg (by omega)]) rfl
          have HP := Lib.hid hput
          have HCB := Lib.hid (hput.2.byt _ _ _ (by decide) (by decide) hcb)
          have HST := Lib.hid (hst.trans hput.2)
          clear hput hC hst hcb
          go_wp2
          go_roundw
          case rel => exact ⟨j + 1, by omega, by go_num, HP.out.1, HST.out, HCB.out⟩
          case measure => simp [intOf]; omega
        · obtain rfl : j = i := by omega
          have HC := Lib.hid hC
          have HST := Lib.hid hst
          clear hC hst hcb
          go_wp2
          go_end0
          have e : freeTo c j = passC l c := by
            have hl : c.ls.length = j := HS.out.ok.len
            rw [← freeTo_all (l := l) (fun q hq => HG.out q (by rw [← hl]; exact hq)), hl]
          have hC2 := HC.out
          rw [e] at hC2
          have hpk := HS.out.ok.passC
          exact ⟨rfl, HS.out.next hC2 (SmG.refl _) HST.out hpk.1 (by rw [hpk.2.2]), HST.out⟩

end Go.Proofs.YtelbfeidpcojmaaGreat
