/- Part 22 of what the claim needs. -/
import Derived.Test.YtelbfeidpcojmaaGreatLau2
import Derived.Test.YtelbfeidpcojmaaGreatLau10
import Derived.Test.YtelbfeidpcojmaaGreatLau18
import Derived.Test.YtelbfeidpcojmaaGreatLau20
import Derived.Test.YtelbfeidpcojmaaGreatLau21
import Derived.StillTailTactics
import Derived.Deep.LoopGhost
namespace Go.Proofs.YtelbfeidpcojmaaGreat
open Go.RowKit
set_option linter.unusedVariables false
set_option linter.unusedSimpArgs false

/-- A machine and a crowd in memory. -/
structure CS (O : Nat → Prop) (w : World) (B n mg cb : Nat) (A : Option Addr) (ca : Nat) (l : List Cd) (ob : Nat) (ga : Nat → Nat) (z : Gm) (c : Cw) : Prop where
  mach : MK w B mg A ca l ob ga
  cm : CM O w B n z c
  ok : CwOk l n c
  blk : w.heap[cb]? = some (.cells #[.slice (some ⟨z.lb, 0, none⟩) n z.lc, .slice (some ⟨z.mb, 0, none⟩) c.mem.length z.mc] 67 (0, 0))
  cB : B ≤ cb
  hB : B ≤ w.heap.size
section
variable {O : Nat → Prop} {w w' : World} {B n mg cb : Nat} {A : Option Addr} {ca : Nat} {l : List Cd} {ob : Nat} {ga : Nat → Nat} {z z' : Gm} {c c' : Cw}
theorem CS.next (h : CS O w B n mg cb A ca l ob ga z c) (hc : CM O w' B n z' c') (hz : SmG z' z) (hs : StC O B w w') (hk : CwOk l n c') (hm : c'.mem.length = c.mem.length) : CS O w' B n mg cb A ca l ob ga z' c' :=
  ⟨h.mach.stc hs, hc, hk, by rw [hz.1, hz.2.1, hz.2.2.1, hz.2.2.2, hm]; exact hs.byt _ _ _ (by decide) (by decide) h.blk, h.cB, Nat.le_trans h.hB hs.size⟩
theorem CS.ext (h : CS O w B n mg cb A ca l ob ga z c) (hx : Ext w w') : CS O w' B n mg cb A ca l ob ga z c :=
  h.next (h.cm.ext hx) (SmG.refl _) (StC.of_ext hx h.hB) h.ok rfl
theorem CS.cells (h : CS O w B n mg cb A ca l ob ga z c) : w.cell? ⟨cb, 0, none⟩ = some (.slice (some ⟨z.lb, 0, none⟩) n z.lc) ∧ w.cell? ⟨cb, 1, none⟩ = some (.slice (some ⟨z.mb, 0, none⟩) c.mem.length z.mc) := by
  constructor <;> (rw [cell_of_heap h.blk]; rfl)
end

theorem goes_c {O : Nat → Prop} {w : World} {B n mg : Nat} {A : Option Addr} {ca : Nat} {l : List Cd} {ob : Nat} {ga : Nat → Nat} {z : Gm} {c : Cw} (hm : MK w B mg A ca l ob ga) (h : CM O w B n z c) (hok : CwOk l n c) {k : Nat} (hk : k < n) (hp : pv l = true) :
    Calls Tryz.prog 94 #[.pointer (some ⟨mg, 0, none⟩), .pointer (some ⟨z.lb, k * 4, none⟩)] w fun e w' => e = .returned (.bool (goesL l (c.lane k))) ∧ Ext w w' := by
  obtain ⟨-, -, -, e3⟩ := h.cells hk
  have hpl := ((hok.at_ hk).2.pos_le hp).1
  have HM := Lib.hid hm
  have HC := Lib.hid h
  clear hm h hok
  by_cases hw : (c.lane k).waits = true
  · have hg : goesL l (c.lane k) = false := by unfold goesL; rw [hw]; rfl
    rw [hw] at e3
    rw [hg]
    clear hw hg hpl
    go_enter Tryz.func94, Tryz.ntmps94
    go_wp2
    go_ret
    exact ⟨rfl, Ext.refl _⟩
  · have hw : (c.lane k).waits = false := by simpa using hw
    have hg : goesL l (c.lane k) = !(((c.lane k).pos : Int) == (l.length : Int)) := by
      unfold goesL
      rw [hw]
      by_cases e : (c.lane k).pos = l.length
      · simp [e]
      · have h1 : (((c.lane k).pos : Int) == (l.length : Int)) = false := by simp; omega
        rw [h1]; simp; omega
    rw [hw] at e3
    rw [hg]
    clear hw hg hpl
    go_enter Tryz.func94, Tryz.ntmps94
    go_wp2_with fail
    refine (isDone_c HM.out HC.out hk).mono ?_
    rintro e w1 ⟨rfl, hx⟩
    have HX := Lib.hid hx
    clear hx
    go_wp2
    go_ret
    exact ⟨rfl, HX.out⟩

def PsRel1 (w : World) (n : Nat) (l : List Cd) (c : Cw) (kv : Value) (wr : World) : Prop :=
  ∃ i : Nat, i ≤ n ∧ kv = .int .i64 i ∧ Hid (∀ j, j < i → goesL l (c.lane j) = false) ∧ Ext w wr
def PsRel2 (O : Nat → Prop) (w : World) (B n mg cb : Nat) (A : Option Addr) (ca : Nat) (l : List Cd) (ob : Nat) (ga : Nat → Nat) (z : Gm) (c : Cw) (kv : Value) (wr : World) : Prop :=
  ∃ i : Nat, i ≤ n ∧ kv = .int .i64 i ∧ CM O wr B n z (freeTo c i) ∧ StC O B w wr ∧ wr.heap[cb]? = some (.cells #[.slice (some ⟨z.lb, 0, none⟩) n z.lc, .slice (some ⟨z.mb, 0, none⟩) c.mem.length z.mc] 67 (0, 0))

set_option maxRecDepth 100000 in
set_option maxHeartbeats 4000000 in
theorem pass_c {O : Nat → Prop} {w : World} {B n mg cb : Nat} {A : Option Addr} {ca : Nat} {l : List Cd} {ob : Nat} {ga : Nat → Nat} {z : Gm} {c : Cw} (h : CS O w B n mg cb A ca l ob ga z c) (hp : pv l = true) (hn : n ≤ 8) :
    Calls Tryz.prog 96 #[.pointer (some ⟨mg, 0, none⟩), .pointer (some ⟨cb, 0, none⟩)] w fun e w' => e = .returned (.tuple #[]) ∧ CS O w' B n mg cb A ca l ob ga z (passC l c) ∧ StC O B w w' := by
  obtain ⟨c0, c1⟩ := h.cells
  have HS := Lib.hid h
  clear h
  go_enter Tryz.func96, Tryz.ntmps96
  go_wp2
  go_loopw [11] (fun kv wr => PsRel1 w n l c kv wr) (fun kv _ => n - (intOf kv).toNat)
  case atStart => exact ⟨0, Nat.zero_le _, rfl, Lib.hid (fun j hj => absurd hj (Nat.not_lt_zero _)), Ext.refl _⟩
  case round =>
    obtain ⟨i, hi, rfl, HG, hx⟩ := hrel
    have HSr := Lib.hid (HS.out.ext hx)
    have HX := Lib.hid hx
    have c0' := hx.cell c0
    clear hx c0 c1
    by_cases hlt : i < n
    · have hiI : (i : Int) < (n : Int) := by omega
      cases hg : goesL l (c.lane i) with
      | true =>
        have HGI := Lib.hid hg
        go_wp2_with fail
        refine (goes_c HSr.out.mach HSr.out.cm HSr.out.ok hlt hp).mono ?_
        rintro e w1 ⟨rfl, hx1⟩
        rw [hg]
        clear hg
        have HX1 := Lib.hid (HX.out.trans hx1)
        clear hx1
        go_wp2
        ((try simp only [Exit.inBlock, Exit.then]); refine bodyPost_ret (results_none rfl _ _ _) rfl ?_)
        rw [pass_go (by rw [HS.out.ok.len]; exact hlt) HGI.out]
        exact ⟨rfl, HS.out.ext HX1.out, StC.of_ext HX1.out HS.out.hB⟩
      | false =>
        have HG2 := Lib.hid (show ∀ j, j < i + 1 → goesL l (c.lane j) = false from fun j hj => by
          by_cases e : j = i
          · rw [e]; exact hg
          · exact HG.out j (by omega))
        go_wp2_with fail
        refine (goes_c HSr.out.mach HSr.out.cm HSr.out.ok hlt hp).mono ?_
        rintro e w1 ⟨rfl, hx1⟩
        rw [hg]
        clear hg
        have HX1 := Lib.hid (HX.out.trans hx1)
        clear hx1
        go_wp2
        go_roundw
        case rel => exact ⟨i + 1, by omega, by go_num, HG2, HX1.out⟩
        case measure => simp [intOf]; omega
    · obtain rfl : i = n := by omega
      have hnI : ¬ ((i : Int) < (i : Int)) := by omega
      have hCM : CM O wr B i z (freeTo c 0) := by rw [freeTo_zero]; exact HSr.out.cm
      have hcb := HSr.out.blk
      have hstx := StC.of_ext (O := O) HX.out HS.out.hB
      have hSz : B ≤ wr.heap.size := HSr.out.hB
      rename_i wr1
      go_wp2
      go_loopw [28] (fun kv wr => PsRel2 O w B i mg cb A ca l ob ga z c kv wr) (fun kv _ => i - (intOf kv).toNat)
      case atStart => exact ⟨0, Nat.zero_le _, rfl, hCM, hstx, hcb⟩
      case round =>
        clear hCM hcb hstx c0'
        obtain ⟨j, hj, rfl, hC, hst, hcb⟩ := hrel
        have c0 := cell_of_heap hcb 0
        have hBr := Nat.le_trans HS.out.hB hst.size
        by_cases hlt : j < i
        · have hjI : (j : Int) < (i : Int) := by omega
          have f3 := hC.free (j * 4 + 3)
          obtain ⟨-, -, -, e3⟩ := hC.cells hlt
          have hjl : j < c.ls.length := by rw [HS.out.ok.len]; exact hlt
          have hput := CM.put hC hBr (k := j) (j := 3) (v := .bool false) (c' := freeTo c (j + 1)) hlt (by decide) (by rw [freeTo_lane hjl, if_pos (by omega)]; rfl)
            (fun q hq hne => by
              rw [freeTo_lane hjl, if_pos (by omega), freeTo_lane hjl, if_neg (by omega)]
              have : q = 0 ∨ q = 1 ∨ q = 2 := by omega
              rcases this with rfl | rfl | rfl <;> rfl)
            (fun q hq hne => by
              have hql : q < c.ls.length := by rw [HS.out.ok.len]; exact hq
              rw [freeTo_lane hql, freeTo_lane hql]
              by_cases e : q < j
              · rw [if_pos e, if_pos (by omega)]
              · rw [if_neg e, if_neg (by omega)])
            (by rw [freeTo_lane hjl, if_pos (by omega), freeTo_lane hjl, if_neg (by omega)]) (by rw [freeTo_lane hjl, if_pos (by omega), freeTo_lane hjl, if_neg (by omega)]) rfl
          have HP := Lib.hid hput
          have HCB := Lib.hid (hput.2.byt _ _ _ (by decide) (by decide) hcb)
          have HST := Lib.hid (hst.trans hput.2)
          clear hput hC hst hcb
          go_wp2
          go_roundw
          case rel => exact ⟨j + 1, by omega, by go_num, HP.out.1, HST.out, HCB.out⟩
          case measure => simp [intOf]; omega
        · obtain rfl : j = i := by omega
          have HC := Lib.hid hC
          have HST := Lib.hid hst
          clear hC hst hcb
          go_wp2
          go_end0
          have e : freeTo c j = passC l c := by
            have hl : c.ls.length = j := HS.out.ok.len
            rw [← freeTo_all (l := l) (fun q hq => HG.out q (by rw [← hl]; exact hq)), hl]
          have hC2 := HC.out
          rw [e] at hC2
          have hpk := HS.out.ok.passC
          exact ⟨rfl, HS.out.next hC2 (SmG.refl _) HST.out hpk.1 (by rw [hpk.2.2]), HST.out⟩



def laneV (z : Gm) (k : Nat) (s : Ln) : Value := .agg #[.slice (some ⟨z.R k, 0, none⟩) 4 (z.RC k), .int .i64 s.pos, .slice (adr (z.T k)) s.turns.length (z.TC k), .bool s.waits]

set_option maxRecDepth 100000 in
set_option maxHeartbeats 4000000 in
theorem isDoneP_c {w : World} {B mg q : Nat} {A : Option Addr} {ca p : Nat} {l : List Cd} {ob : Nat} {ga : Nat → Nat} (hm : MK w B mg A ca l ob ga) (e1 : w.cell? ⟨q, 1, none⟩ = some (.int .i64 p)) :
    Calls Tryz.prog 92 #[.pointer (some ⟨mg, 0, none⟩), .pointer (some ⟨q, 0, none⟩)] w fun e w' => e = .returned (.bool ((p : Int) == (l.length : Int))) ∧ Ext w w' := by
  obtain ⟨d0, d1⟩ := hm.cells
  go_enter Tryz.func92, Tryz.ntmps92
  go_wp2_with fail
  go_quiet (fail)
  go_wp2
  go_ret
  exact ⟨rfl, ⟨rfl, rfl, rfl, Nat.le_refl _, fun _ _ => rfl⟩⟩

set_option maxRecDepth 100000 in
set_option maxHeartbeats 4000000 in
theorem isOverF_c {w : World} {B mg b : Nat} {A : Option Addr} {ca k : Nat} {l : List Cd} {ob : Nat} {ga : Nat → Nat} {z : Gm} {s : Ln} (hm : MK w B mg A ca l ob ga) (hB : B ≤ w.heap.size) (bx : w.cell? ⟨b, 0, none⟩ = some (.pointer (some ⟨mg, 0, none⟩))) :
    Calls Tryz.prog 91 #[laneV z k s, .pointer (some ⟨b, 0, none⟩)] w fun e w' => e = .returned (.bool (!((s.pos : Int) == (l.length : Int)))) ∧ Ext w w' := by
  have hX := Ext.alloc w (.cells #[.slice (some ⟨z.R k, 0, none⟩) 4 (z.RC k), .int .i64 s.pos, .slice (adr (z.T k)) s.turns.length (z.TC k), .bool s.waits] 84)
  have hN := heap_alloc_new w (.cells #[.slice (some ⟨z.R k, 0, none⟩) 4 (z.RC k), .int .i64 s.pos, .slice (adr (z.T k)) s.turns.length (z.TC k), .bool s.waits] 84)
  have n1 := cell_of_heap hN 1
  have bx' := hX.cell bx
  have HM := Lib.hid (hm.ext hX hB)
  have HX := Lib.hid hX
  unfold laneV
  clear hm hX hN bx
  go_enter Tryz.func91, Tryz.ntmps91
  go_wp2_with fail
  generalize w.alloc (.cells #[.slice (some ⟨z.R k, 0, none⟩) 4 (z.RC k), .int .i64 s.pos, .slice (adr (z.T k)) s.turns.length (z.TC k), .bool s.waits] 84) = W at *
  go_wp2_with fail
  refine (isDoneP_c (p := s.pos) HM.out (by rw [n1]; rfl)).mono ?_
  rintro e w1 ⟨rfl, hx⟩
  have HX1 := Lib.hid (HX.out.trans hx)
  clear hx n1 bx'
  go_wp2
  go_ret
  exact ⟨rfl, HX1.out⟩

set_option maxRecDepth 100000 in
set_option maxHeartbeats 4000000 in
theorem isOverI_c {O : Nat → Prop} {w : World} {B n mg cb b : Nat} {A : Option Addr} {ca : Nat} {l : List Cd} {ob : Nat} {ga : Nat → Nat} {z : Gm} {c : Cw} (h : CS O w B n mg cb A ca l ob ga z c) (hn : n ≤ 8) (bx : w.cell? ⟨b, 0, none⟩ = some (.pointer (some ⟨mg, 0, none⟩))) :
    Calls Tryz.prog 121 #[.slice (some ⟨z.lb, 0, none⟩) n z.lc, .func (Fn.func 91) #[] #[.pointer (some ⟨b, 0, none⟩)]] w fun e w' => ∃ i : Int, e = .returned (.int .i64 i) ∧ (0 ≤ i ↔ ∃ k, k < n ∧ (c.lane k).pos ≠ l.length) ∧ Ext w w' := by
  have HS := Lib.hid h
  have HBX := Lib.hid bx
  clear h bx
  go_enter Tryz.func121, Tryz.ntmps121
  go_wp2
  go_loopw [8] (fun kv wr => ∃ k : Nat, k ≤ n ∧ kv = .int .i64 k ∧ Hid (∀ j, j < k → (c.lane j).pos = l.length) ∧ Ext w wr) (fun kv _ => n - (intOf kv).toNat)
  case atStart => exact ⟨0, Nat.zero_le _, rfl, Lib.hid (fun j hj => absurd hj (Nat.not_lt_zero _)), Ext.refl _⟩
  case round =>
    obtain ⟨k, hk, rfl, HN, hx⟩ := hrel
    have HX := Lib.hid hx
    have HSr := Lib.hid (HS.out.ext hx)
    have HBr := Lib.hid (hx.cell HBX.out)
    clear hx
    by_cases hlt : k < n
    · have hkI : (k : Int) < (n : Int) := by omega
      obtain ⟨e0, e1, e2, e3⟩ := HSr.out.cm.cells hlt
      go_wp2_with fail
      refine (isOverF_c (z := z) (k := k) (s := c.lane k) HSr.out.mach HSr.out.hB HBr.out).mono ?_
      rintro e w1 ⟨rfl, hx1⟩
      have HX1 := Lib.hid (HX.out.trans hx1)
      clear hx1 e0 e1 e2 e3
      by_cases hp : (c.lane k).pos = l.length
      · have hd : (((c.lane k).pos : Int) == (l.length : Int)) = true := by simp [hp]
        rw [hd]
        have HN2 := Lib.hid (show ∀ j, j < k + 1 → (c.lane j).pos = l.length from fun j hj => by
          by_cases e : j = k
          · rw [e]; exact hp
          · exact HN.out j (by omega))
        clear hp hd
        go_wp2
        go_roundw
        case rel => exact ⟨k + 1, by omega, by go_num, HN2, HX1.out⟩
        case measure => simp [intOf]; omega
      · have hd : (((c.lane k).pos : Int) == (l.length : Int)) = false := by simp; omega
        rw [hd]
        have HP := Lib.hid hp
        clear hp hd
        go_wp2
        go_ret
        exact ⟨k, rfl, ⟨fun _ => ⟨k, hlt, HP.out⟩, fun _ => by omega⟩, HX1.out⟩
    · obtain rfl : k = n := by omega
      go_wp2
      go_ret
      exact ⟨-1, rfl, ⟨fun h => by omega, fun ⟨j, hj, hne⟩ => absurd (HN.out j hj) hne⟩, HX.out⟩

set_option maxRecDepth 100000 in
set_option maxHeartbeats 4000000 in
theorem isOverC_c {O : Nat → Prop} {w : World} {B n mg cb b : Nat} {A : Option Addr} {ca : Nat} {l : List Cd} {ob : Nat} {ga : Nat → Nat} {z : Gm} {c : Cw} (h : CS O w B n mg cb A ca l ob ga z c) (hp : pv l = true) (hn : n ≤ 8) (bx : w.cell? ⟨b, 0, none⟩ = some (.pointer (some ⟨mg, 0, none⟩))) :
    Calls Tryz.prog 90 #[.slice (some ⟨z.lb, 0, none⟩) n z.lc, .func (Fn.func 91) #[] #[.pointer (some ⟨b, 0, none⟩)]] w fun e w' => e = .returned (.bool (!overC l c)) ∧ Ext w w' := by
  have HOV := Lib.hid (over_iff_pos h.ok hp)
  have HI := Lib.hid (isOverI_c h hn bx)
  clear h bx
  go_enter Tryz.func90, Tryz.ntmps90
  go_wp2_with fail
  refine (HI.out).mono ?_
  rintro e w1 ⟨i, rfl, hi, hx⟩
  have hd : decide (0 ≤ i) = !overC l c := by
    cases ho : overC l c with
    | true =>
      have h1 := HOV.out.1 ho
      simp only [Bool.not_true, decide_eq_false_iff_not]
      rw [hi]
      rintro ⟨k, hk, hne⟩
      exact hne (h1 k hk)
    | false =>
      simp only [Bool.not_false, decide_eq_true_eq]
      rw [hi]
      refine Classical.byContradiction fun hno => ?_
      have : overC l c = true := HOV.out.2 (fun k hk => Classical.byContradiction fun hne => hno ⟨k, hk, hne⟩)
      rw [ho] at this
      cases this
  have HD := Lib.hid hd
  have HX := Lib.hid hx
  clear hd hi hx
  go_wp2
  go_ret
  exact ⟨retb (by first | exact HD.out | (rw [← HD.out]; simp)), HX.out⟩

set_option maxRecDepth 100000 in
set_option maxHeartbeats 4000000 in
theorem isOver_c {O : Nat → Prop} {w : World} {B n mg cb : Nat} {A : Option Addr} {ca : Nat} {l : List Cd} {ob : Nat} {ga : Nat → Nat} {z : Gm} {c : Cw} (h : CS O w B n mg cb A ca l ob ga z c) (hp : pv l = true) (hn : n ≤ 8) :
    Calls Tryz.prog 58 #[.pointer (some ⟨mg, 0, none⟩), .pointer (some ⟨cb, 0, none⟩)] w fun e w' => e = .returned (.bool (overC l c)) ∧ Ext w w' := by
  have hX := Ext.alloc w (.cells #[.pointer (some ⟨mg, 0, none⟩)] 69)
  have hN := heap_alloc_new w (.cells #[.pointer (some ⟨mg, 0, none⟩)] 69)
  have HBX := Lib.hid ((cell_of_heap hN 0).trans rfl)
  have HX := Lib.hid hX
  have HS := Lib.hid (h.ext hX)
  have hmf : ∀ (fn : Fn) (first cap : Array Value) (w : World), (Instr.makeFunc fn first cap).run Tryz.prog w = .ok (.func fn first cap) w := fun _ _ _ _ => rfl
  obtain ⟨c0, -⟩ := h.cells
  have c0' := hX.cell c0
  clear h hX hN c0
  go_enter Tryz.func58, Tryz.ntmps58
  go_wp2_with fail
  refine (isOverC_c HS.out hp hn HBX.out).mono ?_
  rintro e w1 ⟨rfl, hx⟩
  have HX1 := Lib.hid (HX.out.trans hx)
  clear hx
  go_wp2
  go_ret
  exact ⟨retb (by simp), HX1.out⟩

theorem infoLane4 : (Tryz.prog.info? 84).map (fun i => (i.zero, i.size, i.bytes)) = some (some (.agg #[.slice none 0 0, .int .i64 0, .slice none 0 0, .bool false]), 4, 64) := by kernel_rfl

set_option maxRecDepth 100000 in
set_option maxHeartbeats 4000000 in
theorem iNewLane_c (w : World) : Calls Tryz.prog 89 #[] w fun e w' => ∃ b, e = .returned (.agg #[.slice (some ⟨b, 0, none⟩) 4 4, .int .i64 0, .slice none 0 0, .bool false]) ∧ w.heap.size ≤ b ∧ b < w'.heap.size ∧ OI w' w.heap.size (some ⟨b, 0, none⟩) 4 4 [0, 0, 0, 0] ∧ Ext w w' := by
  have hmk : ∀ W : World, (Instr.makeSlice 24 (.int .i64 4) (.int .i64 4)).run Tryz.prog W = .ok (.slice (some ⟨W.heap.size, 0, none⟩) 4 4) (W.alloc (.cells (zeroRow (.int .i64 0) 4) 3)) := fun W => make_int 4 (by omega) W
  go_enter Tryz.func89, Tryz.ntmps89
  go_wp2
  have hX1 := Ext.alloc w (.cells #[.slice (some ⟨w.heap.size + 1, 0, none⟩) 4 4, .int .i64 0, .slice none 0 0, .bool false] 84)
  have hX2 := Ext.alloc (w.alloc (.cells #[.slice (some ⟨w.heap.size + 1, 0, none⟩) 4 4, .int .i64 0, .slice none 0 0, .bool false] 84)) (.cells (zeroRow (.int .i64 0) 4) 3)
  have hN := hX2.heap_ (heap_alloc_new w (.cells #[.slice (some ⟨w.heap.size + 1, 0, none⟩) 4 4, .int .i64 0, .slice none 0 0, .bool false] 84))
  refine ret_cell Tryz.results89 _ rfl _ _ _ hN _ (Tryz.underlying84) rfl (by kernel_rfl) rfl ?_
  have hsz : (w.alloc (.cells #[.slice (some ⟨w.heap.size + 1, 0, none⟩) 4 4, .int .i64 0, .slice none 0 0, .bool false] 84)).heap.size = w.heap.size + 1 := by simp
  have ho := OR.lit (w.alloc (.cells #[.slice (some ⟨w.heap.size + 1, 0, none⟩) 4 4, .int .i64 0, .slice none 0 0, .bool false] 84)) w.heap.size 3 1 4 (zeroRow (.int .i64 0) 4) (by omega) (by omega) (by rw [zeroRow_size])
  rw [hsz, show (zeroRow (.int .i64 0) 4).toList = List.replicate 4 (.int .i64 0) from toList_madeCells_one _ _] at ho
  exact ⟨w.heap.size + 1, rfl, by omega, by simp, ho, hX1.trans hX2⟩


/-- A crowd in the course of being laid: k lanes are there. -/
structure NCr (w : World) (B rb cb k : Nat) (L : Option Addr) (lc : Nat) (R : Nat → Nat) (mb mc : Nat) (m : List Int) : Prop where
  row : OR w B 84 4 L k lc (lanesV ⟨0, lc, R, fun _ => 4, fun _ => none, fun _ => 0, mb, mc⟩ k fun _ => Ln.new)
  regs : ∀ j, j < k → OI w B (some ⟨R j, 0, none⟩) 4 4 [0, 0, 0, 0]
  mem : OI w B (some ⟨mb, 0, none⟩) m.length mc m
  rm : ∀ j, j < k → R j ≠ mb
  rr : ∀ i j, i < k → j < k → R i = R j → i = j
  blk : w.heap[cb]? = some (.cells #[.slice L k lc, .slice (some ⟨mb, 0, none⟩) m.length mc] 67 (0, 0))
  cB : B ≤ cb
  res : w.heap[rb]? = some (.cells #[.slice none 0 0, .slice none 0 0] 67 (0, 0))
  rc : rb ≠ cb

theorem own_heap {w : World} {base e size n c : Nat} {A : Option Addr} {xs : List Value} (h : OR w base e size A n c xs) {q : Nat} (hq : Value.ownBlock (.slice A n c) = some q) : ∃ cur, w.heap[q]? = some (.cells cur e (0, 0)) := by
  rcases h.2 with ⟨hv, _⟩ | ⟨g, cap, cur, hv, _, hg, _⟩
  · rw [hv] at hq; simp [Value.ownBlock] at hq
  · rw [hv] at hq
    simp [Value.ownBlock] at hq
    subst hq
    exact ⟨cur, hg⟩
theorem own_sep {w : World} {b1 b2 e1 e2 s1 s2 n1 n2 c1 c2 : Nat} {A1 A2 : Option Addr} {x1 x2 : List Value} (h1 : OR w b1 e1 s1 A1 n1 c1 x1) (h2 : OR w b2 e2 s2 A2 n2 c2 x2) (hne : e1 ≠ e2) :
    Value.ownBlock (.slice A1 n1 c1) = none ∨ Value.ownBlock (.slice A1 n1 c1) ≠ Value.ownBlock (.slice A2 n2 c2) := by
  cases hq : Value.ownBlock (.slice A1 n1 c1) with
  | none => exact .inl rfl
  | some q =>
    refine .inr fun e => ?_
    obtain ⟨cur, hc⟩ := own_heap h2 e.symm
    exact own_ne h1 hc hne hq

theorem NCr.step {w w4 w3 : World} {B rb cb k lc mb mc b g cap : Nat} {L : Option Addr} {R : Nat → Nat} {m : List Int} (h : NCr w B rb cb k L lc R mb mc m) (hB : B ≤ w.heap.size) (hx : Ext w w4) (hb1 : w.heap.size ≤ b) (hb3 : OI w4 B (some ⟨b, 0, none⟩) 4 4 [0, 0, 0, 0])
    (hg : (w4.alloc (.cells #[.slice (some ⟨b, 0, none⟩) 4 4, .int .i64 0, .slice none 0 0, .bool false] 84)).grownBy w3 (Value.ownBlock (.slice L k lc)))
    (ho : OR w3 B 84 4 (some ⟨g, 0, none⟩) (k + 1) cap (lanesV ⟨0, lc, R, fun _ => 4, fun _ => none, fun _ => 0, mb, mc⟩ k (fun _ => Ln.new) ++ [.slice (some ⟨b, 0, none⟩) 4 4, .int .i64 0, .slice none 0 0, .bool false])) :
    NCr (w3.setCell ⟨cb, 0, none⟩ (.slice (some ⟨g, 0, none⟩) (k + 1) cap)) B rb cb (k + 1) (some ⟨g, 0, none⟩) cap (fun j => if j = k then b else R j) mb mc m ∧ Below B w (w3.setCell ⟨cb, 0, none⟩ (.slice (some ⟨g, 0, none⟩) (k + 1) cap)) := by
  have hX := hx.trans (Ext.alloc w4 (.cells #[.slice (some ⟨b, 0, none⟩) 4 4, .int .i64 0, .slice none 0 0, .bool false] 84))
  have hrow := OR.ext h.row hX
  have hcb := hX.heap_ h.blk
  have hne : Value.ownBlock (.slice L k lc) ≠ some cb := own_ne hrow hcb (by decide)
  have hcb3 : w3.heap[cb]? = some (.cells #[.slice L k lc, .slice (some ⟨mb, 0, none⟩) m.length mc] 67 (0, 0)) := (hg.block cb (lt_of_block hcb) (fun e => hne e.symm)).trans hcb
  have oi : ∀ {A : Option Addr} {n c : Nat} {xs : List Int}, OI (w4.alloc (.cells #[.slice (some ⟨b, 0, none⟩) 4 4, .int .i64 0, .slice none 0 0, .bool false] 84)) B A n c xs → OI (w3.setCell ⟨cb, 0, none⟩ (.slice (some ⟨g, 0, none⟩) (k + 1) cap)) B A n c xs := fun hA => by
    have h1 : OI w3 B _ _ _ _ := OR.kept hA hg (own_sep hA hrow (by decide))
    exact OR.set_other h1 (p := ⟨cb, 0, none⟩) (own_ne h1 hcb3 (by decide)) _
  have hlt : ∀ j, j < k → R j < w.heap.size := fun j hj => (OR.base_le (h.regs j hj)).2
  have hml := (OR.base_le h.mem).2
  refine ⟨⟨?_, fun j hj => ?_, oi (OR.ext h.mem hX), fun j hj => ?_, fun i j hi hj => ?_, ?_, h.cB, ?_, h.rc⟩, ?_⟩
  · have e : lanesV ⟨0, cap, fun j => if j = k then b else R j, fun _ => 4, fun _ => none, fun _ => 0, mb, mc⟩ (k + 1) (fun _ => Ln.new) = lanesV ⟨0, lc, R, fun _ => 4, fun _ => none, fun _ => 0, mb, mc⟩ k (fun _ => Ln.new) ++ [.slice (some ⟨b, 0, none⟩) 4 4, .int .i64 0, .slice none 0 0, .bool false] := by
      rw [lanesV_snoc]
      congr 1
      · refine lanesV_congr fun i hi q _ => ?_
        have : i ≠ k := by omega
        match q with
        | 0 => simp [laneCell, this]
        | 1 => rfl
        | 2 => rfl
        | q + 3 => rfl
      · simp [laneCell, Ln.new, adr]
    rw [e]
    exact OR.set_other ho (p := ⟨cb, 0, none⟩) (own_ne ho hcb3 (by decide)) _
  · by_cases e : j = k
    · subst e
      simp only [if_true]
      exact oi (OR.alloc hb3 _)
    · simp only [e, if_false]
      exact oi (OR.ext (h.regs j (by omega)) hX)
  · by_cases e : j = k
    · simp only [e, if_true]; omega
    · simp only [e, if_false]; exact h.rm j (by omega)
  · by_cases e1 : i = k <;> by_cases e2 : j = k <;> simp only [e1, e2, if_true, if_false]
    · intro _; trivial
    · intro e; have := hlt j (by omega); omega
    · intro e; have := hlt i (by omega); omega
    · exact h.rr i j (by omega) (by omega)
  · exact heap_set_same hcb3 0 _
  · have hrb := hX.heap_ h.res
    have hne2 : Value.ownBlock (.slice L k lc) ≠ some rb := own_ne hrow hrb (by decide)
    rw [heap_set_other h.rc]
    exact (hg.block rb (lt_of_block hrb) (fun e => hne2 e.symm)).trans hrb
  · have hbl : Below B w w3 := ⟨hg.os.trans hX.os, hg.tape.trans hX.tape, hg.output.trans hX.output, Nat.le_trans hX.size hg.size, fun i hi => by
      have h1 := hX.block i (by omega)
      have h2 := hg.block i (Nat.lt_of_lt_of_le (by omega : i < w.heap.size) hX.size) (fun e => by
        have := (OR.block hrow i e.symm).1
        omega)
      exact h2.trans h1⟩
    exact hbl.setCell h.cB _

def NcRel (w : World) (n rb : Nat) (cb mb mc : Nat) (m : List Int) (kv : Value) (wr : World) : Prop :=
  ∃ (k : Nat) (L : Option Addr) (lc : Nat) (R : Nat → Nat), k ≤ n ∧ kv = .int .i64 k ∧ NCr wr w.heap.size rb cb k L lc R mb mc m ∧ Below w.heap.size w wr
theorem NCr.done {w : World} {B rb cb n lc mb mc : Nat} {L : Option Addr} {R : Nat → Nat} {m : List Int} (h : NCr w B rb cb n L lc R mb mc m) (hn : 1 ≤ n) : ∃ z : Gm, L = some ⟨z.lb, 0, none⟩ ∧ z.lc = lc ∧ z.mb = mb ∧ z.mc = mc ∧ CM (fun _ => True) w B n z (Cw.start n m) := by
  obtain ⟨g, rfl, hg⟩ := OR.at_ h.row (by omega)
  have hl : ∀ k, k < n → (Cw.start n m).lane k = Ln.new := fun k hk => by
    simp [Cw.start, Cw.lane, List.getD_eq_getElem?_getD, hk]
  refine ⟨⟨g, lc, R, fun _ => 4, fun _ => none, fun _ => 0, mb, mc⟩, rfl, rfl, rfl, rfl, ⟨?_, fun k hk => ?_, fun k hk => ?_, h.mem, h.rm, h.rr, fun k hk => by simp, fun j k hj hk => by simp, fun j k q hj hk h1 => by simp at h1, trivial, trivial, fun _ _ => trivial, fun _ _ _ _ => trivial, fun _ _ => trivial⟩⟩
  · have e : lanesV ⟨g, lc, R, fun _ => 4, fun _ => none, fun _ => 0, mb, mc⟩ n (Cw.start n m).lane = lanesV ⟨0, lc, R, fun _ => 4, fun _ => none, fun _ => 0, mb, mc⟩ n fun _ => Ln.new :=
      lanesV_congr fun i hi q _ => by
        rw [hl i hi]
        match q with
        | 0 => rfl
        | 1 => rfl
        | 2 => rfl
        | q + 3 => rfl
    rw [e]
    exact h.row
  · rw [hl k hk]; exact h.regs k hk
  · rw [hl k hk]; exact OR.nil_ _ _ _ _

set_option maxRecDepth 100000 in
set_option maxHeartbeats 4000000 in
theorem newCrowd_c (M : Option Addr) (mcap : Nat) (m : List Int) (n : Nat) (w : World) (hM : RdI w w.heap.size M m) (hn : 1 ≤ n ∧ n ≤ 8) (hml : 1 ≤ m.length ∧ m.length ≤ 32) (hmc : M = none → mcap = 0) :
    Calls Tryz.prog 56 #[.int .i64 n, .slice M m.length mcap] w fun e w' => ∃ z : Gm, e = .returned (.agg #[.slice (some ⟨z.lb, 0, none⟩) n z.lc, .slice (some ⟨z.mb, 0, none⟩) m.length z.mc]) ∧ CM (fun _ => True) w' w.heap.size n z (Cw.start n m) ∧ Below w.heap.size w w' := by
  have hX0 := Ext.alloc w (.cells #[.slice none 0 0, .slice none 0 0] 67)
  have hN0 := heap_alloc_new w (.cells #[.slice none 0 0, .slice none 0 0] 67)
  have hM0 := (hM.below hX0.below).more hX0.size
  have hsz0 : (w.alloc (.cells #[.slice none 0 0, .slice none 0 0] 67)).heap.size = w.heap.size + 1 := by simp
  go_enter Tryz.func56, Tryz.ntmps56
  go_wp2_with fail
  refine (cloneI_c M mcap m _ hM0 (by omega) hmc).mono ?_
  rintro e w1 ⟨M', mc, rfl, hm1, hb1⟩
  obtain ⟨mb, rfl, hmb1, hmb2, -⟩ := OR.at_ hm1 (by omega)
  rw [hsz0] at hm1 hmb1
  have hs1 := hb1.size
  have hX1 := Ext.alloc w1 (.cells #[.slice none 0 0, .slice (some ⟨mb, 0, none⟩) m.length mc] 67)
  have hN1 := heap_alloc_new w1 (.cells #[.slice none 0 0, .slice (some ⟨mb, 0, none⟩) m.length mc] 67)
  have hN01 := hX1.heap_ ((Ext.of_below hb1).heap_ hN0)
  have hmz : OI (w1.alloc (.cells #[.slice none 0 0, .slice (some ⟨mb, 0, none⟩) m.length mc] 67)) w.heap.size (some ⟨mb, 0, none⟩) m.length mc m := OR.alloc (OR.mono hm1 (by omega)) _
  have HB := Lib.hid (show Below w.heap.size w (w1.alloc (.cells #[.slice none 0 0, .slice (some ⟨mb, 0, none⟩) m.length mc] 67)) from (below_trans hX0.below (Nat.le_refl _) hb1).alloc (by omega) _)
  have HN := Lib.hid (show NCr (w1.alloc (.cells #[.slice none 0 0, .slice (some ⟨mb, 0, none⟩) m.length mc] 67)) w.heap.size w.heap.size w1.heap.size 0 none 0 (fun _ => 0) mb mc m from
    ⟨OR.nil_ _ _ _ _, fun j hj => absurd hj (Nat.not_lt_zero _), hmz, fun j hj => absurd hj (Nat.not_lt_zero _), fun i j hi => absurd hi (Nat.not_lt_zero _), hN1, by omega, hN01, by omega⟩)
  have hcbs : w.heap.size < w1.heap.size := by omega
  clear hX0 hN0 hM0 hsz0 hb1 hm1 hmb1 hmb2 hs1 hX1 hN1 hN01 hmz hM
  go_wp2_with fail
  generalize w1.alloc (.cells #[.slice none 0 0, .slice (some ⟨mb, 0, none⟩) m.length mc] 67) = w2 at *
  generalize w1.heap.size = cb at *
  go_loopw [10] (fun kv wr => NcRel w n w.heap.size cb mb mc m kv wr) (fun kv _ => n - (intOf kv).toNat)
  case atStart => exact ⟨0, none, 0, _, Nat.zero_le _, rfl, HN.out, HB.out⟩
  case round =>
    obtain ⟨k, L, lc, R, hk, rfl, hN, hb⟩ := hrel
    have HNr := Lib.hid hN
    have HBr := Lib.hid hb
    have hbs := hb.size
    have c0 := cell_of_heap hN.blk 0
    clear HN HB hb
    by_cases hlt : k < n
    · have hkI : (k : Int) < (n : Int) := by omega
      obtain ⟨i0, hi0, hz0, hz1, hz2⟩ := info_parts infoLane4
      have hcbl : cb < wr.heap.size := lt_of_block hN.blk
      have hne : Value.ownBlock (.slice L k lc) ≠ some cb := own_ne hN.row hN.blk (by decide)
      have hblk := hN.blk
      clear hN
      go_wp2_with fail
      go_region_law (first
        | (go_simp; go_at_call 89; refine (iNewLane_c _).mono ?_; rintro e w4 ⟨b, rfl, hnb1, hnb2, hnb3, hnx⟩
           have hx4 := (Ext.drew wr).trans hnx
           have c04 := hx4.cell c0
           have hcb4 := Nat.lt_of_lt_of_le hcbl hx4.size
           have hOR4 := Lib.hid (OR.alloc (OR.ext HNr.out.row hx4) (.cells #[.slice (some ⟨b, 0, none⟩) 4 4, .int .i64 0, .slice none 0 0, .bool false] 84))
           have hnew := heap_alloc_new w4 (.cells #[.slice (some ⟨b, 0, none⟩) 4 4, .int .i64 0, .slice none 0 0, .bool false] 84)
           have hblk4 := (Ext.alloc w4 (.cells #[.slice (some ⟨b, 0, none⟩) 4 4, .int .i64 0, .slice none 0 0, .bool false] 84)).heap_ (hx4.heap_ hblk))
        | (refine step_append_lies _ (by rfl) _ _ _ (by rfl) w.heap.size 84 i0 _ 4 64 Tryz.underlying65 hi0 hz0 hz1 hz2 rfl (by omega) (.slice L k lc) k _ (by rfl) hOR4.out ⟨w4.heap.size, 0, none⟩ 1 1 [.slice (some ⟨b, 0, none⟩) 4 4, .int .i64 0, .slice none 0 0, .bool false] (by rfl) (by rfl) (World.news_of_block (cs := #[.slice (some ⟨b, 0, none⟩) 4 4, .int .i64 0, .slice none 0 0, .bool false]) (t := 84) (fr := (0, 0)) hnew) (by simp [Value.oneCell']) (by omega) (by unfold maxLen; omega) (by omega) (by have := hx4.size; simp; omega) (w4.heap.size + 1) (by simp) ?_
           intro gg cap w3 ho3 hgrow hat hlt3
           have hblk3 := (hgrow.block cb (lt_of_block hblk4) (fun e => hne e.symm)).trans hblk4
           have f3 := free_of_heap hblk3 0
           have c3 := cell_of_heap hblk3 0))
      all_goals
        have hst := HNr.out.step hbs hx4 hnb1 (OR.mono hnb3 hbs) ⟨hgrow.os, hgrow.tape, hgrow.output, hgrow.size, hgrow.block⟩ ho3
        have HST := Lib.hid hst
        clear hst ho3 hgrow hat hlt3 hblk3 f3 c3 hOR4 hnew hblk4 c04 hcb4
        go_wp2
        refine ⟨⟨k + 1, _, _, _, by omega, by go_num, HST.out.1, HBr.out.trans HST.out.2⟩, ?_⟩
        simp [intOf]; omega
    · obtain rfl : k = n := by omega
      have hres := cell_of_heap hN.res 0
      have hres1 := cell_of_heap hN.res 1
      have c1 := cell_of_heap hN.blk 1
      have f0 := free_of_heap hN.res 0
      have f1 := free_of_heap hN.res 1
      have hRS := hN.res
      clear hN
      go_wp2
      have hz1 := heap_set_same hRS 0 (.slice L k lc)
      have hz2 := heap_set_same hz1 1 (.slice (some ⟨mb, 0, none⟩) m.length mc)
      refine ret_cell Tryz.results56 _ rfl _ _ _ hz2 _ (Tryz.underlying67) rfl (by kernel_rfl) rfl ?_
      obtain ⟨z, rfl, h1, h2, h3, hC⟩ := HNr.out.done hn.1
      have hoi : ∀ {A : Option Addr} {e nn c : Nat} {sz : Nat} {xs : List Value}, OR wr w.heap.size e sz A nn c xs → e ≠ 67 → OR ((wr.setCell ⟨w.heap.size, 0, none⟩ (.slice (some ⟨z.lb, 0, none⟩) k lc)).setCell ⟨w.heap.size, 1, none⟩ (.slice (some ⟨mb, 0, none⟩) m.length mc)) w.heap.size e sz A nn c xs := fun hA hne => by
        have hn1 := own_ne hA hRS hne
        exact OR.set_other (OR.set_other hA (p := ⟨w.heap.size, 0, none⟩) hn1 _) (p := ⟨w.heap.size, 1, none⟩) hn1 _
      subst h1 h2 h3
      refine ⟨z, rfl, ⟨hoi hC.row (by decide), fun j hj => hoi (hC.regs j hj) (by decide), fun j hj => hoi (hC.turns j hj) (by decide), hoi hC.mem (by decide), hC.rm, hC.rr, hC.tm, hC.tr, hC.tt, trivial, trivial, fun _ _ => trivial, fun _ _ _ _ => trivial, fun _ _ => trivial⟩, (HBr.out.setCell (Nat.le_refl _) _).setCell (Nat.le_refl _) _⟩


def ordOk (xs : List Int) (n : Int) : Bool := inR n 1 8 && (decide (xs.length ≤ 40) && (allIn xs n && (List.range n.toNat).all fun k => xs.any fun x => x == (k : Int)))
theorem ordOk_in {xs : List Int} {n : Int} (h : ordOk xs n = true) : ∃ N : Nat, n = (N : Int) ∧ 1 ≤ N ∧ N ≤ 8 ∧ 1 ≤ xs.length ∧ xs.length ≤ 40 ∧ (∀ x ∈ xs, ∃ k : Nat, x = (k : Int) ∧ k < N) ∧ ∀ k, k < N → (k : Int) ∈ xs := by
  simp only [ordOk, Bool.and_eq_true, decide_eq_true_eq, inR_iff, List.all_eq_true, List.any_eq_true, beq_iff_eq] at h
  obtain ⟨h1, h2, h3, h4⟩ := h
  obtain ⟨N, rfl⟩ := Int.eq_ofNat_of_zero_le (show 0 ≤ n by omega)
  rw [Int.toNat_natCast] at h4
  have hm : ∀ k, k < N → (k : Int) ∈ xs := fun k hk => by
    obtain ⟨x, hx, rfl⟩ := h4 k (List.mem_range.2 hk)
    exact hx
  refine ⟨N, rfl, by omega, by omega, ?_, h2, fun x hx => ?_, hm⟩
  · have := hm 0 (by omega)
    exact List.length_pos_of_mem this
  · have := inR_iff.1 (List.all_eq_true.1 h3 x hx)
    exact ⟨x.toNat, by omega, by omega⟩

set_option maxRecDepth 100000 in
set_option maxHeartbeats 2000000 in
theorem ovF_c (x n : Int) (b : Nat) (w : World) (hn : 1 ≤ n ∧ n ≤ 8) (hb : w.cell? ⟨b, 0, none⟩ = some (.int .i64 n)) : Calls Tryz.prog 53 #[.int .i64 x, .pointer (some ⟨b, 0, none⟩)] w fun e w' => e = .returned (.bool (!inR x 0 (n - 1))) ∧ w = w' := by
  go_enter Tryz.func53, Tryz.ntmps53
  go_wp2_with (go_at_call 54; refine (within_c _ _ _ _).mono ?_; rintro e w' ⟨rfl, rfl⟩)
  go_ret
  exact ⟨rfl, rfl⟩

set_option maxRecDepth 100000 in
set_option maxHeartbeats 2000000 in
theorem ovIndex_c (A : Option Addr) (c : Nat) (l : List Int) (n : Int) (b : Nat) (w : World) (hA : RdI w w.heap.size A l) (hl : l.length ≤ 1000000000) (hn : 1 ≤ n ∧ n ≤ 8) (hb : w.cell? ⟨b, 0, none⟩ = some (.int .i64 n)) (g : Int → Bool) (hgd : g = fun x => !inR x 0 (n - 1)) :
    Calls Tryz.prog 87 #[.slice A l.length c, .func (Fn.func 53) #[] #[.pointer (some ⟨b, 0, none⟩)]] w fun e w' => ∃ i : Int, e = .returned (.int .i64 i) ∧ decide (0 ≤ i) = l.any g ∧ w = w' := by
  have HGD := Lib.hid (fun x => show g x = !inR x 0 (n - 1) by rw [hgd])
  clear hgd
  go_enter Tryz.func87, Tryz.ntmps87
  go_wp2
  go_loop [8] (fun kv => ∃ k : Nat, k ≤ l.length ∧ kv = .int .i64 k ∧ Hid ((l.take k).any g = false)) (fun kv => l.length - (intOf kv).toNat)
  case atStart => exact ⟨0, Nat.zero_le _, rfl, Lib.hid (by simp)⟩
  case round =>
    obtain ⟨k, hk, rfl, HN⟩ := hrel
    by_cases hlt : k < l.length
    · obtain ⟨b', off, x, rfl, hbB, hx, d0⟩ := hA.at_ hlt
      have HX := Lib.hid hx
      have hkI : (k : Int) < (l.length : Int) := by omega
      clear hx
      go_wp2_with fail
      refine (ovF_c x n b _ hn hb).mono ?_
      rintro e w1 ⟨rfl, rfl⟩
      rw [← HGD.out x]
      cases hgx : g x with
      | true =>
        have HG := Lib.hid (any_hit HX.out hgx)
        clear hgx
        go_wp2
        go_ret
        exact ⟨k, rfl, by rw [HG.out]; simp, rfl⟩
      | false =>
        have HG := Lib.hid (show (l.take (k + 1)).any g = false by rw [any_take HX.out HN.out, hgx])
        clear hgx
        go_wp2
        go_round
        case rel => exact ⟨k + 1, by omega, by go_num, HG⟩
        case measure => simp [intOf]; omega
    · obtain rfl : k = l.length := by omega
      have HN2 := Lib.hid (show l.any g = false by have := HN.out; rwa [List.take_length] at this)
      go_wp2
      go_ret
      exact ⟨-1, rfl, by rw [HN2.out]; simp, rfl⟩

set_option maxRecDepth 100000 in
set_option maxHeartbeats 2000000 in
theorem ovContains_c (A : Option Addr) (c : Nat) (l : List Int) (n : Int) (b : Nat) (w : World) (hA : RdI w w.heap.size A l) (hl : l.length ≤ 1000000000) (hn : 1 ≤ n ∧ n ≤ 8) (hb : w.cell? ⟨b, 0, none⟩ = some (.int .i64 n)) :
    Calls Tryz.prog 52 #[.slice A l.length c, .func (Fn.func 53) #[] #[.pointer (some ⟨b, 0, none⟩)]] w fun e w' => e = .returned (.bool (!allIn l n)) ∧ w = w' := by
  have HV := Lib.hid (show (l.any fun x => !inR x 0 (n - 1)) = !allIn l n by simp [allIn, List.all_eq_not_any_not])
  have HI := Lib.hid (ovIndex_c A c l n b w hA hl hn hb _ rfl)
  go_enter Tryz.func52, Tryz.ntmps52
  go_wp2_with fail
  refine (HI.out).mono ?_
  rintro e w1 ⟨i, rfl, hi, rfl⟩
  rw [HV.out] at hi
  have HI2 := Lib.hid hi
  clear hi
  go_wp2
  go_ret
  exact ⟨retb (by first | exact HI2.out | (rw [← HI2.out]; simp)), rfl⟩

set_option maxRecDepth 100000 in
set_option maxHeartbeats 4000000 in
theorem iOrderValid_c (A : Option Addr) (c : Nat) (xs : List Int) (n : Int) (w : World) (hA : RdI w w.heap.size A xs) (hl : xs.length ≤ 1000000000) :
    Calls Tryz.prog 25 #[.slice A xs.length c, .int .i64 n] w fun e w' => e = .returned (.bool (ordOk xs n)) ∧ Ext w w' := by
  have hX := Ext.alloc w (.cells #[.int .i64 n] 3)
  have hN := heap_alloc_new w (.cells #[.int .i64 n] 3)
  have hbx : (w.alloc (.cells #[.int .i64 n] 3)).cell? ⟨w.heap.size, 0, none⟩ = some (.int .i64 n) := (cell_of_heap hN 0).trans rfl
  have hA2 := (hA.below hX.below).more hX.size
  have HX := Lib.hid hX
  have hmf : ∀ (fn : Fn) (first cap : Array Value) (w : World), (Instr.makeFunc fn first cap).run Tryz.prog w = .ok (.func fn first cap) w := fun _ _ _ _ => rfl
  clear hX hN hA
  cases hn : inR n 1 8 with
  | false =>
    have HV := Lib.hid (show ordOk xs n = false by simp [ordOk, hn])
    go_enter Tryz.func25, Tryz.ntmps25
    go_wp2_with fail
    generalize w.alloc (.cells #[.int .i64 n] 3) = w1 at *
    go_wp2_with fail
    refine (isLanes_c n w1).mono ?_
    rintro e w2 ⟨rfl, rfl⟩
    rw [hn]
    go_wp2
    go_ret
    exact ⟨retb HV.out.symm, HX.out⟩
  | true =>
    have hn8 := inR_iff.1 hn
    by_cases h40 : xs.length ≤ 40
    · have h40I : (xs.length : Int) ≤ 40 := by omega
      have HV := Lib.hid (show ordOk xs n = (allIn xs n && (List.range n.toNat).all fun k => xs.any fun x => x == (k : Int)) by simp [ordOk, hn, h40])
      cases ha : allIn xs n with
      | false =>
        go_enter Tryz.func25, Tryz.ntmps25
        go_wp2_with fail
        generalize w.alloc (.cells #[.int .i64 n] 3) = w1 at *
        go_wp2_with fail
        refine (isLanes_c n w1).mono ?_
        rintro e w2 ⟨rfl, rfl⟩
        rw [hn]
        go_wp2_with fail
        refine (ovContains_c A c xs n _ w1 hA2 hl hn8 hbx).mono ?_
        rintro e w2 ⟨rfl, rfl⟩
        rw [ha]
        go_wp2
        go_ret
        exact ⟨retb (by rw [HV.out, ha]; rfl), HX.out⟩
      | true =>
        obtain ⟨N, rfl⟩ := Int.eq_ofNat_of_zero_le (show 0 ≤ n by omega)
        go_enter Tryz.func25, Tryz.ntmps25
        go_wp2_with fail
        generalize w.alloc (.cells #[.int .i64 N] 3) = w1 at *
        go_wp2_with fail
        refine (isLanes_c N w1).mono ?_
        rintro e w2 ⟨rfl, rfl⟩
        rw [hn]
        go_wp2_with fail
        refine (ovContains_c A c xs N _ w1 hA2 hl hn8 hbx).mono ?_
        rintro e w2 ⟨rfl, rfl⟩
        rw [ha]
        go_wp2
        go_loopw [20] (fun kv wr => ∃ k : Nat, k ≤ N ∧ kv = .int .i64 k ∧ Hid (∀ j, j < k → (xs.any fun x => x == (j : Int)) = true) ∧ w1 = wr) (fun kv _ => N - (intOf kv).toNat)
        case atStart => exact ⟨0, Nat.zero_le _, rfl, Lib.hid (fun j hj => absurd hj (Nat.not_lt_zero _)), rfl⟩
        case round =>
          obtain ⟨k, hk, rfl, HK, rfl⟩ := hrel
          by_cases hlt : k < N
          · have hkI : (k : Int) < (N : Int) := by omega
            cases hc : (xs.any fun x => x == (k : Int)) with
            | true =>
              have HK2 := Lib.hid (show ∀ j, j < k + 1 → (xs.any fun x => x == (j : Int)) = true from fun j hj => by
                by_cases e : j = k
                · rw [e]; exact hc
                · exact HK.out j (by omega))
              go_wp2_with fail
              refine (sliceContains_c A c xs k w1 hA2 (by omega)).mono ?_
              rintro e w2 ⟨rfl, rfl⟩
              rw [hc]
              clear hc
              go_wp2
              go_roundw
              case rel => exact ⟨k + 1, by omega, by go_num, HK2, by first | rfl | trivial⟩
              case measure => simp [intOf]; omega
            | false =>
              have HF := Lib.hid (show (List.range N).all (fun k => xs.any fun x => x == (k : Int)) = false from List.all_eq_false.2 ⟨k, List.mem_range.2 hlt, by rw [hc]; simp⟩)
              go_wp2_with fail
              refine (sliceContains_c A c xs k w1 hA2 (by omega)).mono ?_
              rintro e w2 ⟨rfl, rfl⟩
              rw [hc]
              clear hc
              go_wp2
              go_ret
              exact ⟨retb (by rw [HV.out, ha, Int.toNat_natCast, HF.out]; rfl), HX.out⟩
          · obtain rfl : k = N := by omega
            have HF := Lib.hid (show (List.range k).all (fun k => xs.any fun x => x == (k : Int)) = true from List.all_eq_true.2 fun j hj => HK.out j (List.mem_range.1 hj))
            go_wp2
            go_ret
            exact ⟨retb (by rw [HV.out, ha, Int.toNat_natCast, HF.out]; rfl), HX.out⟩
    · have h40I : ¬ ((xs.length : Int) ≤ 40) := by omega
      have HV := Lib.hid (show ordOk xs n = false by simp [ordOk, hn, h40])
      clear h40
      go_enter Tryz.func25, Tryz.ntmps25
      go_wp2_with fail
      generalize w.alloc (.cells #[.int .i64 n] 3) = w1 at *
      go_wp2_with fail
      refine (isLanes_c n w1).mono ?_
      rintro e w2 ⟨rfl, rfl⟩
      rw [hn]
      go_wp2
      go_ret
      exact ⟨retb HV.out.symm, HX.out⟩


set_option maxRecDepth 100000 in
set_option maxHeartbeats 4000000 in
theorem stepOf_c {O : Nat → Prop} {w : World} {B n mg cb : Nat} {A : Option Addr} {ca : Nat} {l : List Cd} {ob : Nat} {ga : Nat → Nat} {z : Gm} {c : Cw} (h : CS O w B n mg cb A ca l ob ga z c) (hp : pv l = true) (hn : n ≤ 8) {k : Nat} (hk : k < n) (hml : 1 ≤ c.mem.length ∧ c.mem.length ≤ 32) :
    Calls Tryz.prog 61 #[.pointer (some ⟨mg, 0, none⟩), .pointer (some ⟨cb, 0, none⟩), .int .i64 k] w fun e w' => e = .returned (.tuple #[]) ∧ ∃ z', CS O w' B n mg cb A ca l ob ga z' (passC l (stepIf l c k)) ∧ SmG z' z ∧ StC O B w w' := by
  obtain ⟨c0, c1⟩ := h.cells
  have HS := Lib.hid h
  have hknI : (k : Int) < (n : Int) := by omega
  have hBr := h.hB
  clear h
  go_enter Tryz.func61, Tryz.ntmps61
  go_wp2_with fail
  go_still_tail 12, (by kernel_rfl)
  go_wp2_with fail
  have hSd := HS.out.ext (Ext.drew w)
  refine (step_c hSd.mach hSd.cm hSd.ok hk hn hp hSd.hB rfl hml).mono ?_
  rintro e w2 ⟨rfl, z2, hC2, hz2, hst2⟩
  have hok2 := stepIf_ok hp hn hSd.ok hk
  have HS2 := Lib.hid (hSd.next hC2 hz2 hst2 hok2.1 hok2.2)
  have HST2 := Lib.hid ((StC.of_ext (O := O) (Ext.drew w) hBr).trans hst2)
  have HZ2 := Lib.hid hz2
  clear hSd hC2 hz2 hst2 hok2 c0 c1
  go_wp2_with fail
  refine (pass_c HS2.out hp hn).mono ?_
  rintro e w3 ⟨rfl, hP, hst3⟩
  have HP := Lib.hid hP
  have HST3 := Lib.hid (HST2.out.trans hst3)
  clear hP hst3
  go_wp2
  go_end0
  exact ⟨rfl, z2, HP.out, HZ2.out, HST3.out⟩

def GmP (w : World) (R : List Int) (e : Ending) (w' : World) : Prop :=
  ∃ (A : Option Addr) (c : Nat), e = .returned (.slice A R.length c) ∧ OwI w' w.heap.size A R.length c R ∧ Below w.heap.size w w'

def orderOk (l : List Cd) (n : Int) (m xs : List Int) : Bool := lockOk l n m && ordOk xs n
noncomputable def orderM (l : List Cd) (n : Int) (m xs : List Int) : List Int := if orderOk l n m xs then (runE l (orSch xs) (Cw.start n.toNat m)).mem else []
/-- What a valid run in an order is about. -/
theorem order_in {l : List Cd} {n : Int} {m xs : List Int} (h : orderOk l n m xs = true) : ∃ N : Nat, n = (N : Int) ∧ 1 ≤ N ∧ N ≤ 8 ∧ 1 ≤ xs.length ∧ xs.length ≤ 40 ∧
    (∀ x ∈ xs, ∃ k : Nat, x = (k : Int) ∧ k < N) ∧ SchOk N xs.length (orSch xs) ∧ pv l = true ∧ wordsOk m ∧ 1 ≤ m.length ∧ m.length ≤ 32 := by
  simp only [orderOk, lockOk, Bool.and_eq_true] at h
  obtain ⟨⟨h1, h2, h3⟩, h4⟩ := h
  obtain ⟨N, rfl, n1, n8, x1, x2, hx, hc⟩ := ordOk_in h4
  obtain ⟨w1, w2, w3⟩ := memOk_iff.1 h3
  exact ⟨N, rfl, n1, n8, x1, x2, hx, orSch_ok hx hc n1, h1, w1, w2, w3⟩
theorem stepG_or {l : List Cd} {c : Cw} {xs : List Int} {i k : Nat} (h : xs[i % xs.length]? = some (k : Int)) : stepG l c (orSch xs i) = passC l (stepIf l c k) := by
  have : orSch xs i = [k] := by unfold orSch; rw [List.getD_eq_getElem?_getD, h]; simp
  rw [this, stepG_one]

def IoRel (w : World) (n mg cb : Nat) (A : Option Addr) (ca : Nat) (l : List Cd) (ob : Nat) (ga : Nat → Nat) (sch : Nat → List Nat) (c : Cw) (T : Nat) (kv : Value) (wr : World) : Prop :=
  ∃ (i : Nat) (z : Gm), i ≤ T ∧ kv = .int .i64 i ∧ CS (fun _ => True) wr w.heap.size n mg cb A ca l ob ga z (runC l sch c i) ∧ Below w.heap.size w wr

set_option maxRecDepth 100000 in
set_option maxHeartbeats 8000000 in
theorem runOrder_c (A M X : Option Addr) (ca cm cx : Nat) (l : List Cd) (N : Nat) (m xs : List Int) (w : World) (hA : RdC w w.heap.size A l) (hM : RdI w w.heap.size M m) (hX : RdI w w.heap.size X xs)
    (N1 : 1 ≤ N) (N8 : N ≤ 8) (x1 : 1 ≤ xs.length) (x40 : xs.length ≤ 40) (hxs : ∀ x ∈ xs, ∃ k : Nat, x = (k : Int) ∧ k < N) (hsch : SchOk N xs.length (orSch xs)) (hp : pv l = true) (hw : wordsOk m) (hm1 : 1 ≤ m.length) (hm32 : m.length ≤ 32) :
    Calls Tryz.prog 29 #[.slice A l.length ca, .int .i64 N, .slice M m.length cm, .slice X xs.length cx] w (GmP w (runE l (orSch xs) (Cw.start N m)).mem) := by
  have HA := Lib.hid hA
  have HX := Lib.hid hX
  have h0 : CwOk l N (Cw.start N m) := CwOk.start hw
  have hn0 := start_nrm (l := l) N1 m
  obtain ⟨T1, T2, T3⟩ := run_T hp N8 hsch h0 hn0
  have HT1 := Lib.hid T1
  have HT2 := Lib.hid T2
  have HRO := Lib.hid (fun i => run_ok' hp N8 hsch h0 hn0 i)
  have HXS := Lib.hid hxs
  have HRE : Hid (runE l (orSch xs) (Cw.start N m) = runC l (orSch xs) (Cw.start N m) (endT l (orSch xs) (Cw.start N m))) := Lib.hid rfl
  have hTb : endT l (orSch xs) (Cw.start N m) ≤ 3200000 := by
    have : xs.length * 80000 ≤ 40 * 80000 := Nat.mul_le_mul_right _ x40
    omega
  have hc0 : runC l (orSch xs) (Cw.start N m) 0 = Cw.start N m := rfl
  have HC0 := Lib.hid hc0
  have hmc : M = none → cm = 0 := fun e => by
    obtain ⟨b, off, e2, _⟩ := hM.2 (by omega)
    rw [e] at e2; cases e2
  have HMC := Lib.hid hmc
  clear hxs hsch h0 hn0 T1 T2 T3 hc0 hw hmc
  have HSE := Lib.hid (fun i => show runC l (orSch xs) (Cw.start N m) (i + 1) = stepG l (runC l (orSch xs) (Cw.start N m) i) (orSch xs i) from rfl)
  have HGS := Lib.hid (fun (c : Cw) (i k : Nat) (h : xs[i % xs.length]? = some (k : Int)) => stepG_or (l := l) (c := c) h)
  generalize hTe : endT l (orSch xs) (Cw.start N m) = T at *
  clear hTe
  generalize orSch xs = sch at *
  go_enter Tryz.func29, Tryz.ntmps29
  go_wp2_with fail
  refine (newCrowd_c M cm m N w hM ⟨N1, N8⟩ ⟨hm1, hm32⟩ HMC.out).mono ?_
  rintro e w3 ⟨z, rfl, hC, b3⟩
  have hs3 := b3.size
  have hxA := Ext.alloc w3 (.cells #[.slice (some ⟨z.lb, 0, none⟩) N z.lc, .slice (some ⟨z.mb, 0, none⟩) m.length z.mc] 67)
  have hNA := heap_alloc_new w3 (.cells #[.slice (some ⟨z.lb, 0, none⟩) N z.lc, .slice (some ⟨z.mb, 0, none⟩) m.length z.mc] 67)
  have b4 := b3.alloc b3.size (.cells #[.slice (some ⟨z.lb, 0, none⟩) N z.lc, .slice (some ⟨z.mb, 0, none⟩) m.length z.mc] 67)
  have hX4 := (hX.below b4).more b4.size
  have hA4 := (hA.below b4).more b4.size
  have HC4 := Lib.hid (hC.ext hxA)
  have HB4 := Lib.hid (b4)
  have HN4 := Lib.hid hNA
  have hcb : w.heap.size ≤ w3.heap.size := hs3
  have hw2 : w.heap.size ≤ w.heap.size := Nat.le_refl _
  clear hxA hNA b3 b4 hC hM hX hA hs3
  go_wp2_with fail
  generalize w3.alloc (.cells #[.slice (some ⟨z.lb, 0, none⟩) N z.lc, .slice (some ⟨z.mb, 0, none⟩) m.length z.mc] 67) = w4 at *
  generalize w3.heap.size = cb at *
  refine (newMachine_c A ca l w4 hA4 hp).mono ?_
  rintro e w5 ⟨mg, ob, ga, rfl, hmk, b5⟩
  have hX5 := (hX4.below b5).more b5.size
  have hs5 := b5.size
  have hC5 := HC4.out.ext (Ext.of_below b5)
  have hN5 := (Ext.of_below b5).heap_ HN4.out
  have HB5 := Lib.hid (below_trans HB4.out (Nat.le_refl _) b5)
  have HCS : Hid (CS (fun _ => True) w5 w.heap.size N mg cb A ca l ob ga z (runC l sch (Cw.start N m) 0)) := Lib.hid (by
    rw [HC0.out]
    have hr := HRO.out 0
    rw [HC0.out] at hr
    have hC6 : CM (fun _ => True) w5 w.heap.size N z (Cw.start N m) := ⟨OR.mono hC5.row hw2, fun k hk => OR.mono (hC5.regs k hk) hw2, fun k hk => OR.mono (hC5.turns k hk) hw2, OR.mono hC5.mem hw2, hC5.rm, hC5.rr, hC5.tm, hC5.tr, hC5.tt, trivial, trivial, fun _ _ => trivial, fun _ _ _ _ => trivial, fun _ _ => trivial⟩
    have hB4s := HB4.out.size
    exact ⟨⟨hmk.blk, by have := hmk.gB; omega, OR.mono hmk.own hB4s, fun p hp' ho' => ⟨by have := (hmk.bks p hp' ho').1; omega, (hmk.bks p hp' ho').2⟩, HA.out.below HB5.out⟩, hC6, hr.1, hN5, hcb, HB5.out.size⟩)
  clear b5 hC5 hN5 HC4 HN4 HB4 hX4 hA4 hmk hs5 hw2 hcb
  have hc0m : (Cw.start N m).mem.length = m.length := rfl
  generalize Cw.start N m = c0 at *
  have HCM := Lib.hid hc0m
  clear hc0m
  go_wp2_with fail
  go_loopw [11] (fun kv wr => IoRel w N mg cb A ca l ob ga sch c0 T kv wr) (fun kv _ => T - (intOf kv).toNat)
  case atStart => exact ⟨0, z, Nat.zero_le _, rfl, HCS.out, HB5.out⟩
  case round =>
    obtain ⟨i, zi, hi, rfl, hCi, hb⟩ := hrel
    have HCi := Lib.hid hCi
    have HBi := Lib.hid hb
    have hXr := (HX.out.below hb).more hb.size
    clear HCS HB5 hCi hb hX5
    by_cases hlt : i < T
    · have hov := HT2.out i hlt
      have hmod : i % xs.length < xs.length := Nat.mod_lt _ (by omega)
      obtain ⟨xb, xo, x, rfl, hxB, hx, x0⟩ := hXr.at_ hmod
      obtain ⟨k, rfl, hkn⟩ := HXS.out x (List.mem_of_getElem? hx)
      have HGD := Lib.hid ((HSE.out i).trans (HGS.out _ i k hx))
      have hrem0 : ∀ q, i % xs.length = q → ((i : Int).tmod (xs.length : Int)) = (q : Int) := fun q h => by rw [← h]; rfl
      have hlen0 : ((xs.length : Int) == 0) = false := beq_eq_false_iff_ne.2 (by omega)
      clear hx
      generalize hq : i % xs.length = im at *
      have hrem := hrem0 im rfl
      have hmodI : (im : Int) < (xs.length : Int) := by omega
      clear hrem0 hq
      go_wp2_with fail
      refine (isOver_c HCi.out hp N8).mono ?_
      rintro e w6 ⟨rfl, hx6⟩
      rw [hov]
      have x0' := hx6.cell x0
      have HC6 := Lib.hid (HCi.out.ext hx6)
      have HB6 := Lib.hid (HBi.out.trans (hx6.below.mono (by have := HBi.out.size; exact this)))
      have HMLN : Hid (1 ≤ (runC l sch c0 i).mem.length ∧ (runC l sch c0 i).mem.length ≤ 32) := Lib.hid (by have h1 := (HRO.out i).2.2; rw [HCM.out] at h1; omega)
      clear hx6 hov x0
      go_wp2_with fail
      refine (stepOf_c HC6.out hp N8 hkn HMLN.out).mono ?_
      rintro e w9 ⟨rfl, z9, hC9, hz9, hst9⟩
      have HC9 := Lib.hid hC9
      have HB9 := Lib.hid (HB6.out.trans hst9.bel)
      clear hC9 hz9 hst9 x0'
      go_wp2
      go_roundw
      case rel => exact ⟨i + 1, z9, by omega, by go_num, by rw [HGD.out]; exact HC9.out, HB9.out⟩
      case measure => simp [intOf]; omega
    · obtain rfl : i = T := by omega
      have hov := HT1.out
      go_wp2_with fail
      refine (isOver_c HCi.out hp N8).mono ?_
      rintro e w6 ⟨rfl, hx6⟩
      rw [hov]
      have HC6 := Lib.hid (HCi.out.ext hx6)
      have HB6 := Lib.hid (HBi.out.trans (hx6.below.mono (by have := HBi.out.size; exact this)))
      obtain ⟨-, c1⟩ := HC6.out.cells
      clear hx6 hov
      have hme := (HRO.out i).2.2
      rw [HCM.out] at hme
      rw [hme] at c1
      have HME := Lib.hid hme
      clear hme
      go_wp2
      go_ret
      refine ⟨some ⟨zi.mb, 0, none⟩, zi.mc, by rw [HRE.out, HME.out]; rfl, .inr ?_, HB6.out⟩
      rw [HRE.out, HME.out]
      have h1 := HC6.out.cm.mem
      rw [HME.out] at h1
      exact h1

set_option maxRecDepth 100000 in
set_option maxHeartbeats 8000000 in
theorem iRunOrder_c (A M X : Option Addr) (ca cm cx : Nat) (l : List Cd) (n : Int) (m xs : List Int) (w : World) (hA : RdC w w.heap.size A l) (hM : RdI w w.heap.size M m) (hX : RdI w w.heap.size X xs) (hl : l.length ≤ 1000000000) (hml : m.length ≤ 1000000000) (hxl : xs.length ≤ 1000000000) :
    Calls Tryz.prog 16 #[.slice A l.length ca, .int .i64 n, .slice M m.length cm, .slice X xs.length cx] w (GmP w (orderM l n m xs)) := by
  have HCR := Lib.hid (canRun_c A M ca cm l n m w hA hM hl hml)
  cases hlo : lockOk l n m with
  | false =>
    have HV := Lib.hid (show orderM l n m xs = [] by simp [orderM, orderOk, hlo])
    go_enter Tryz.func16, Tryz.ntmps16
    go_wp2_with fail
    refine HCR.out.mono ?_
    rintro e w1 ⟨rfl, b1⟩
    rw [hlo]
    have HB := Lib.hid b1
    clear b1
    go_wp2
    go_ret
    exact ⟨none, 0, by rw [HV.out]; rfl, .inl ⟨by rw [HV.out]; rfl, HV.out⟩, HB.out⟩
  | true =>
    cases ho : ordOk xs n with
    | false =>
      have HV := Lib.hid (show orderM l n m xs = [] by simp [orderM, orderOk, ho])
      go_enter Tryz.func16, Tryz.ntmps16
      go_wp2_with fail
      refine HCR.out.mono ?_
      rintro e w1 ⟨rfl, b1⟩
      rw [hlo]
      have HB := Lib.hid b1
      have hX1 := (hX.below b1).more b1.size
      clear b1
      go_wp2_with fail
      refine (iOrderValid_c X cx xs n w1 hX1 hxl).mono ?_
      rintro e w2 ⟨rfl, hx⟩
      rw [ho]
      have HB2 := Lib.hid (below_trans HB.out (Nat.le_refl _) hx.below)
      clear hx
      go_wp2
      go_ret
      exact ⟨none, 0, by rw [HV.out]; rfl, .inl ⟨by rw [HV.out]; rfl, HV.out⟩, HB2.out⟩
    | true =>
      have hok : orderOk l n m xs = true := by simp [orderOk, hlo, ho]
      obtain ⟨N, rfl, N1, N8, x1, x40, hxs, hsch, hp, hw, hm1, hm32⟩ := order_in hok
      have HV := Lib.hid (show orderM l N m xs = (runE l (orSch xs) (Cw.start N m)).mem by simp [orderM, hok])
      have HRC := Lib.hid (fun W a b d => runOrder_c A M X ca cm cx l N m xs W a b d N1 N8 x1 x40 hxs hsch hp hw hm1 hm32)
      unfold GmP
      rw [HV.out]
      unfold GmP at HRC
      generalize (runE l (orSch xs) (Cw.start N m)).mem = R at *
      clear hok hxs hsch hp hw HV
      go_enter Tryz.func16, Tryz.ntmps16
      go_wp2_with fail
      refine HCR.out.mono ?_
      rintro e w1 ⟨rfl, b1⟩
      rw [hlo]
      have hX1 := (hX.below b1).more b1.size
      have hA1 := (hA.below b1).more b1.size
      have hM1 := (hM.below b1).more b1.size
      have HB1 := Lib.hid b1
      clear b1 hlo
      go_wp2_with fail
      refine (iOrderValid_c X cx xs N w1 hX1 hxl).mono ?_
      rintro e w2 ⟨rfl, hx⟩
      rw [ho]
      have hX2 := (hX1.below hx.below).more hx.size
      have hA2 := (hA1.below hx.below).more hx.size
      have hM2 := (hM1.below hx.below).more hx.size
      have HB2 := Lib.hid (below_trans HB1.out (Nat.le_refl _) hx.below)
      clear hx ho HB1 hX1 hA1 hM1
      go_wp2_with fail
      refine (HRC.out w2 hA2 hM2 hX2).mono ?_
      rintro e w3 ⟨A', c', rfl, hO, hb3⟩
      have HO := Lib.hid (show OwI w3 w.heap.size A' R.length c' R from hO.imp id (fun h => OR.mono h HB2.out.size))
      have HB3 := Lib.hid (below_trans HB2.out (Nat.le_refl _) hb3)
      clear hO hb3 HRC hA2 hM2 hX2
      go_wp2
      go_ret
      exact ⟨A', c', rfl, HO.out, HB3.out⟩

end Go.Proofs.YtelbfeidpcojmaaGreat
