/- The program's runLock: the walk. -/
import Derived.Test.YtfgbbajkdpideaaILock5
import Derived.Test.YtfgbbajkdpideaaILock6
import Derived.Test.YtfgbbajkdpideaaBits
import Derived.Deep.RegionHeld3
import Derived.Deep.RegionLaw
import Derived.Deep.AppendLies
namespace Go.Proofs.Ytfgbbajkdpideaa
open Go.RowKit
set_option linter.unusedVariables false
set_option linter.unusedSimpArgs false

/-- A run whose first k lanes have their registers. -/
structure IAR (w : World) (B g mg : Nat) (A : Option Addr) (ca : Nat) (l : List Cd) (ob : Nat) (ga : Nat → Nat) (mb mc : Nat) (mem : List Int) (R : Option Addr) (rc : Nat) (rk : Nat → Nat) (k : Nat) : Prop where
  blk : w.heap[g]? = some (.cells #[.pointer (some ⟨mg, 0, none⟩), .slice R k rc, .slice (some ⟨mb, 0, none⟩) mem.length mc, .slice none 0 0, .slice none 0 0, .int .i64 0, .nilFunc] 64 (0, 0))
  gB : B ≤ g
  mach : MK w B mg A ca l ob ga
  out : OR w B 27 1 R k rc (regRows rk k)
  inn : ∀ j, j < k → OI w B (some ⟨rk j, 0, none⟩) 4 4 [0, 0, 0, 0]
  mem : OI w B (some ⟨mb, 0, none⟩) mem.length mc mem
  inj : ∀ i j, i < k → j < k → rk i = rk j → i = j
  mne : ∀ j, j < k → rk j ≠ mb

section
variable {w w3 : World} {B g mg : Nat} {A : Option Addr} {ca : Nat} {l : List Cd} {ob : Nat} {ga : Nat → Nat} {mb mc : Nat} {mem : List Int} {R : Option Addr} {rc : Nat} {rk : Nat → Nat} {k : Nat}
theorem regRows_succ (rk : Nat → Nat) (k v : Nat) : regRows (fun j => if j = k then v else rk j) (k + 1) = regRows rk k ++ [.slice (some ⟨v, 0, none⟩) 4 4] := by
  unfold regRows
  rw [List.range_succ, List.map_append]
  congr 1
  · apply List.map_congr_left
    intro j hj
    have : j < k := List.mem_range.1 hj
    simp [show j ≠ k by omega]
  · simp
theorem IAR.ext {w' : World} (h : IAR w B g mg A ca l ob ga mb mc mem R rc rk k) (hx : Ext w w') (hB : B ≤ w.heap.size) : IAR w' B g mg A ca l ob ga mb mc mem R rc rk k :=
  ⟨hx.heap_ h.blk, h.gB, h.mach.ext hx hB, h.out.ext hx, fun j hj => OR.ext (h.inn j hj) hx, OR.ext h.mem hx, h.inj, h.mne⟩
theorem IAR.step (h : IAR w B g mg A ca l ob ga mb mc mem R rc rk k) (hB : B ≤ w.heap.size) {gg cap : Nat} {cs : Array Value} (hcs : cs.toList = [.int .i64 0, .int .i64 0, .int .i64 0, .int .i64 0])
    (hg : ((w.alloc (.cells cs 3)).alloc (.cells #[.slice (some ⟨w.heap.size, 0, none⟩) 4 4] 27)).grownBy w3 (Value.ownBlock (.slice R k rc)))
    (ho : OR w3 B 27 1 (some ⟨gg, 0, none⟩) (k + 1) cap (regRows rk k ++ [.slice (some ⟨w.heap.size, 0, none⟩) 4 4])) :
    IAR (w3.setCell ⟨g, 1, none⟩ (.slice (some ⟨gg, 0, none⟩) (k + 1) cap)) B g mg A ca l ob ga mb mc mem (some ⟨gg, 0, none⟩) cap (fun j => if j = k then w.heap.size else rk j) (k + 1) ∧ Below B w (w3.setCell ⟨g, 1, none⟩ (.slice (some ⟨gg, 0, none⟩) (k + 1) cap)) := by
  have hX1 := Ext.alloc w (.cells cs 3)
  have hX2 := Ext.alloc (w.alloc (.cells cs 3)) (.cells #[.slice (some ⟨w.heap.size, 0, none⟩) 4 4] 27)
  have hrow : OI (w.alloc (.cells cs 3)) B (some ⟨w.heap.size, 0, none⟩) 4 4 [0, 0, 0, 0] := by
    have := OR.lit w B 3 1 4 cs hB (by omega) (by rw [← Array.length_toList, hcs]; rfl)
    rw [hcs] at this
    exact this
  have hrow2 := OR.ext hrow hX2
  have h2 := h.ext (hX1.trans hX2) hB
  have hglt : g < w.heap.size := lt_of_block h.blk
  generalize (w.alloc (.cells cs 3)).alloc (.cells #[.slice (some ⟨w.heap.size, 0, none⟩) 4 4] 27) = w2 at *
  have hblk3 := (hg.block g (lt_of_block h2.blk) (fun e => own_ne h2.out h2.blk (by decide) e.symm)).trans h2.blk
  have hlst : Below B w2 w3 := ⟨hg.os, hg.tape, hg.output, hg.size, fun j hj => hg.block j (by have := hX1.size; have := hX2.size; omega) (fun e => by have := (OR.block h2.out j e.symm).1; omega)⟩
  have hb2 : Below B w (w3.setCell ⟨g, 1, none⟩ (.slice (some ⟨gg, 0, none⟩) (k + 1) cap)) := ((((hX1.trans hX2).below).mono hB).trans hlst).setCell h.gB _
  have hb3 : Below B w2 (w3.setCell ⟨g, 1, none⟩ (.slice (some ⟨gg, 0, none⟩) (k + 1) cap)) := hlst.setCell h.gB _
  have ho' : OR w3 B 27 1 (some ⟨gg, 0, none⟩) (k + 1) cap (regRows (fun j => if j = k then w.heap.size else rk j) (k + 1)) := by rw [regRows_succ]; exact ho
  have lt_rk : ∀ j, j < k → rk j < w.heap.size := fun j hj => (OR.base_le (h.inn j hj)).2
  have lt_mb : mb < w.heap.size := (OR.base_le h.mem).2
  refine ⟨⟨?_, h.gB, h2.mach.keep hb3 (fun b cs hb => heap_app_set h2.out hg hblk3 1 _ hb (by decide) (by decide)) (fun b cs hb => heap_app_set h2.out hg hblk3 1 _ hb (by decide) (by decide)) (fun b cs hb => heap_app_set h2.out hg hblk3 1 _ hb (by decide) (by decide)),
    OR.set_other ho' (p := ⟨g, 1, none⟩) (own_ne ho' hblk3 (by decide)) _, fun j hj => ?_, OR.app_set h2.mem h2.out (by decide) hg hblk3 (by decide) 1 _, fun i j hi hj e => ?_, fun j hj => ?_⟩, hb2⟩
  · rw [heap_set_same hblk3]
    rfl
  · by_cases e : j = k
    · subst e
      simp only [if_true]
      exact OR.app_set hrow2 h2.out (by decide) hg hblk3 (by decide) 1 _
    · simp only [e, if_false]
      exact OR.app_set (h2.inn j (by omega)) h2.out (by decide) hg hblk3 (by decide) 1 _
  · by_cases e1 : i = k <;> by_cases e2 : j = k <;> simp only [e1, e2, if_true, if_false] at e
    · omega
    · have := lt_rk j (by omega); omega
    · have := lt_rk i (by omega); omega
    · exact h.inj i j (by omega) (by omega) e
  · by_cases e1 : j = k <;> simp only [e1, if_true, if_false]
    · omega
    · exact h.mne j (by omega)
theorem IAR.done {rg n : Nat} (h : IAR w B g mg A ca l ob ga mb mc mem (some ⟨rg, 0, none⟩) rc rk n) : IR w ⟨B, g, mg, A, ca, l, ob, ga, n, rg, rc, rk, mb, mc⟩ none 0 none 0 (LS.start n mem) := by
  refine ⟨h.blk, h.gB, h.mach, h.out, fun k hk => ?_, h.mem, OR.nil_ _ _ _ _, OR.nil_ _ _ _ _, h.inj, h.mne⟩
  have e : (LS.start n mem).regs.getD k [] = [0, 0, 0, 0] := by
    have hk' : k < n := hk
    simp [LS.start, List.getD_eq_getElem?_getD, hk']
  rw [e]
  exact h.inn k hk
end
theorem SOk.start' {n : Nat} {mem : List Int} (hn : n ≤ 8) (hm : wordsOk mem) (h1 : 1 ≤ mem.length) (h2 : mem.length ≤ 32) : SOk n (LS.start n mem) :=
  ⟨hn, by simp [LS.start], fun r hr => by
    have : r = [0, 0, 0, 0] := (List.mem_replicate.1 hr).2
    subst this
    exact ⟨rfl, fun v hv => by simp at hv; omega⟩, hm, h1, h2⟩

/-- What runLock leaves for valid arguments. -/
def RLPost (w : World) (l : List Cd) (n : Nat) (s : LS) (e : Ending) (w' : World) : Prop :=
  ∃ (z : IW) (T : Option Addr) (tc : Nat) (U : Option Addr) (uc : Nat), e = .returned (.tuple #[.pointer (some ⟨z.g, 0, none⟩), .bool true]) ∧ z.B = w.heap.size ∧ z.l = l ∧ z.n = n ∧ IR w' z T tc U uc s ∧ Below w.heap.size w w'

def RLk (w : World) (l : List Cd) (n : Int) (mem : List Int) (e : Ending) (w' : World) : Prop :=
  (lockOk l n mem = true ∧ RLPost w l n.toNat (lockS l n.toNat mem) e w') ∨ (lockOk l n mem = false ∧ e = .returned (.tuple #[.pointer none, .bool false]) ∧ Below w.heap.size w w')
def RLoRel (w : World) (g mg : Nat) (A : Option Addr) (ca : Nat) (l : List Cd) (ob : Nat) (ga : Nat → Nat) (n mb mc : Nat) (mem : List Int) (kv : Value) (wr : World) : Prop :=
  ∃ (k : Nat) (R : Option Addr) (rc : Nat) (rk : Nat → Nat), k ≤ n ∧ kv = .int .i64 k ∧ IAR wr w.heap.size g mg A ca l ob ga mb mc mem R rc rk k ∧ Below w.heap.size w wr

set_option maxRecDepth 100000 in
set_option maxHeartbeats 8000000 in
theorem runLock_c (A Am : Option Addr) (ca cm : Nat) (l : List Cd) (n : Int) (mem : List Int) (w : World) (hA : RdC w w.heap.size A l) (hM : RdI w w.heap.size Am mem) (hl : l.length ≤ 1000000000) (hml : mem.length ≤ 1000000000) :
    Calls Try.prog 26 #[.slice A l.length ca, .int .i64 n, .slice Am mem.length cm, .nilFunc] w (RLk w l n mem) := by
  cases hok : lockOk l n mem with
  | false =>
    go_enter Try.func26, Try.ntmps26
    go_wp2_with fail
    refine (canRun_c A Am ca cm l n mem w hA hM hl hml).mono ?_
    rintro e w1 ⟨rfl, hb1⟩
    rw [hok]
    go_wp2
    go_ret2
    exact .inr ⟨hok, rfl, hb1⟩
  | true =>
    have h' := hok
    simp only [lockOk, Bool.and_eq_true] at h'
    obtain ⟨hp, hin, hmem⟩ := h'
    obtain ⟨k, rfl⟩ : ∃ k : Nat, n = (k : Int) := ⟨n.toNat, by have := (inR_iff.1 hin).1; omega⟩
    have hk1 : 1 ≤ k := by have := (inR_iff.1 hin).1; omega
    have hk8 : k ≤ 8 := by have := (inR_iff.1 hin).2; omega
    obtain ⟨hm0, hm1, hm2⟩ := memOk_iff.1 hmem
    have h40 := (pv_iff.1 hp).1
    have HP := Lib.hid hp
    have HOK := Lib.hid hok
    have HMW := Lib.hid hm0
    have hcm : Am = none → cm = 0 := fun e => by
      obtain ⟨mb0, mo0, y0, e2, _⟩ := hM.at_ (k := 0) (by omega)
      rw [e2] at e; cases e
    have hmk : ∀ w : World, (Instr.makeSlice 27 (.int .i64 4) (.int .i64 4)).run Try.prog w = .ok (.slice (some ⟨w.heap.size, 0, none⟩) 4 4) (w.alloc (.cells (zeroRow (.int .i64 0) 4) 3)) := make_int 4 (by omega)
    clear hp hin hmem hm0
    go_enter Try.func26, Try.ntmps26
    go_wp2_with fail
    refine (canRun_c A Am ca cm l k mem w hA hM hl hml).mono ?_
    rintro e w1 ⟨rfl, hb1⟩
    rw [hok]
    clear hok
    go_wp2_with fail
    refine (newMachine_c A ca l w1 ((hA.below hb1).more hb1.size) HP.out).mono ?_
    rintro e w2 ⟨mg, ob, ga, rfl, hMK, hb2⟩
    have hbW := below_trans hb1 (Nat.le_refl _) hb2
    go_wp2_with fail
    refine (cloneI_c Am cm mem w2 ((hM.below hbW).more hbW.size) hml hcm).mono ?_
    rintro e w3 ⟨Ac, cc, rfl, hOM, hb3⟩
    obtain ⟨mb, rfl, -, hmbl, -⟩ := OR.at_ hOM (by omega)
    have hbW3 := below_trans hbW (Nat.le_refl _) hb3
    have hs3 := hbW3.size
    have hMK3 := (hMK.ext (Ext.of_below hb3) hb2.size)
    have hX4 := Ext.alloc w3 (.cells #[.pointer (some ⟨mg, 0, none⟩), .slice none 0 0, .slice (some ⟨mb, 0, none⟩) mem.length cc, .slice none 0 0, .slice none 0 0, .int .i64 0, .nilFunc] 64)
    have hN4 := heap_alloc_new w3 (.cells #[.pointer (some ⟨mg, 0, none⟩), .slice none 0 0, .slice (some ⟨mb, 0, none⟩) mem.length cc, .slice none 0 0, .slice none 0 0, .int .i64 0, .nilFunc] 64)
    have hMK4 : MK (w3.alloc (.cells #[.pointer (some ⟨mg, 0, none⟩), .slice none 0 0, .slice (some ⟨mb, 0, none⟩) mem.length cc, .slice none 0 0, .slice none 0 0, .int .i64 0, .nilFunc] 64)) w.heap.size mg A ca l ob ga := by
      have h4 := hMK3.ext hX4 (Nat.le_trans hb2.size hb3.size)
      exact ⟨h4.blk, Nat.le_trans hb1.size h4.gB, h4.own.mono hb1.size, fun p hp ho => ⟨Nat.le_trans hb1.size (h4.bks p hp ho).1, (h4.bks p hp ho).2⟩, hA.below (hbW3.alloc hs3 _)⟩
    have hAR : IAR (w3.alloc (.cells #[.pointer (some ⟨mg, 0, none⟩), .slice none 0 0, .slice (some ⟨mb, 0, none⟩) mem.length cc, .slice none 0 0, .slice none 0 0, .int .i64 0, .nilFunc] 64)) w.heap.size w3.heap.size mg A ca l ob ga mb cc mem none 0 (fun _ => 0) 0 :=
      ⟨hN4, hs3, hMK4, OR.nil_ _ _ _ _, fun j hj => by omega, OR.ext (OR.mono hOM hbW.size) hX4, fun i j hi => by omega, fun j hj => by omega⟩
    have hbA : Below w.heap.size w (w3.alloc (.cells #[.pointer (some ⟨mg, 0, none⟩), .slice none 0 0, .slice (some ⟨mb, 0, none⟩) mem.length cc, .slice none 0 0, .slice none 0 0, .int .i64 0, .nilFunc] 64)) := hbW3.alloc hs3 _
    clear hX4 hN4 hMK4 hMK3 hMK hOM
    go_wp2_with fail
    generalize w3.alloc (.cells #[.pointer (some ⟨mg, 0, none⟩), .slice none 0 0, .slice (some ⟨mb, 0, none⟩) mem.length cc, .slice none 0 0, .slice none 0 0, .int .i64 0, .nilFunc] 64) = w4 at *
    generalize w3.heap.size = g at *
    clear hbW3 hs3 hb3 hbW hb2 hb1 hmbl
    go_loopw [24] (fun kv wr => RLoRel w g mg A ca l ob ga k mb cc mem kv wr) (fun kv _ => k - (intOf kv).toNat)
    case atStart => exact ⟨0, none, 0, _, Nat.zero_le _, rfl, hAR, hbA⟩
    case round =>
      clear hAR hbA
      obtain ⟨j, R, rc, rk, hj, rfl, hR, hb2⟩ := hrel
      have hBr := hb2.size
      have hblk := hR.blk
      have c1 : wr.cell? ⟨g, 1, none⟩ = some (.slice R j rc) := cell_of_heap hblk 1
      have HR := Lib.hid hR
      by_cases hlt : j < k
      · obtain ⟨i0, hi0, hz0, hz1, hz2⟩ := info_parts infoRows
        have hOR := Lib.hid (OR.drew (OR.alloc (OR.alloc hR.out (.cells (zeroRow (.int .i64 0) 4) 3)) (.cells #[.slice (some ⟨wr.heap.size, 0, none⟩) 4 4] 27)))
        have hgl : g < wr.heap.size := lt_of_block hblk
        have hne : Value.ownBlock (.slice R j rc) ≠ some g := own_ne hR.out hblk (by decide)
        have hnew := heap_alloc_new (wr.alloc (.cells (zeroRow (.int .i64 0) 4) 3)) (.cells #[.slice (some ⟨wr.heap.size, 0, none⟩) 4 4] 27)
        simp only [World.size_alloc] at hnew
        have f1 := free_of_heap hblk 1
        have h1 := (Below.heap_alloc wr (.cells (zeroRow (.int .i64 0) 4) 3) g hgl).trans hblk
        have h2 := (Below.heap_alloc (wr.alloc (.cells (zeroRow (.int .i64 0) 4) 3)) (.cells #[.slice (some ⟨wr.heap.size, 0, none⟩) 4 4] 27) g (by simp; omega)).trans h1
        clear hR
        go_wp2_with fail
        go_region_law ((refine step_append_lies _ (by rfl) _ _ _ (by rfl) w.heap.size 27 i0 _ 1 24 Try.underlying60 hi0 hz0 hz1 hz2 rfl (by omega) (.slice R j rc) j _ (by rfl) hOR.out ⟨wr.heap.size + 1, 0, none⟩ 1 1 [.slice (some ⟨wr.heap.size, 0, none⟩) 4 4] (by rfl) (by rfl) (World.news_of_block (cs := #[.slice (some ⟨wr.heap.size, 0, none⟩) 4 4]) (t := 27) (fr := (0, 0)) hnew) (by simp [Value.oneCell']) (by omega) (by unfold maxLen; omega) (by omega) (by simp; omega) (wr.heap.size + 2) (by simp) ?_; intro gg cap w3 ho3 hgrow hat hlt3; have f3 := free_of_heap ((hgrow.block g (by simp; omega) (fun e => hne e.symm)).trans h2) 1; have c3 := cell_of_heap ((hgrow.block g (by simp; omega) (fun e => hne e.symm)).trans h2) 1))
        all_goals
          have hst := HR.out.step hBr (cs := zeroRow (.int .i64 0) 4) ((toList_madeCells_one _ _).trans rfl) (grown_drew2' hgrow) ho3
          clear c1 hblk h1 h2 f1 hnew hOR ho3 hgrow c3 f3 hat
          obtain ⟨hR', hbS⟩ := hst
          have hb3 := hb2.trans hbS
          go_wp2
          refine ⟨⟨j + 1, _, cap, _, by omega, by go_num, hR', hb3⟩, ?_⟩
          simp [intOf]; omega
      · obtain rfl : j = k := by omega
        obtain ⟨rg, rfl, -, -, -⟩ := OR.at_ hR.out (by omega)
        have hSR := hR.done
        have hmm : 2 ^ j - 1 < 2 ^ j := by have : 0 < 2 ^ j := Nat.pow_pos (by decide); omega
        obtain ⟨ht1, ht2⟩ := treeOf_spec HP.out
        have hwt := wt_le _ 3 ht1
        rw [ht2] at hwt
        have HT1 := Lib.hid ht1
        have HT2 := Lib.hid ht2
        have HALL := Lib.hid (show maskAllI (j : Int) = ((2 ^ j - 1 : Nat) : Int) by
          have : j = 1 ∨ j = 2 ∨ j = 3 ∨ j = 4 ∨ j = 5 ∨ j = 6 ∨ j = 7 ∨ j = 8 := by omega
          rcases this with rfl | rfl | rfl | rfl | rfl | rfl | rfl | rfl <;> decide)
        clear c1 hblk hR ht1 ht2
        go_wp2_with fail
        refine (iMaskAll_c j wr).mono ?_
        rintro e w5 ⟨rfl, rfl⟩
        rw [HALL.out]
        go_wp2_with fail
        refine (run_c (treeOf l).flat.length (treeOf l) 3 (Nat.le_refl _) HT1.out wr ⟨w.heap.size, g, mg, A, ca, l, ob, ga, j, rg, rc, rk, mb, cc⟩ none 0 none 0 (LS.start j mem) 0 (2 ^ j - 1) l.length 0 l.length _ [] hSR (SOk.start' hk8 HMW.out hm1 hm2) (Bd.start _ _) hmm (by simp [HT2.out]) (by simp [HT2.out]) (show l.length ≤ 1000 by omega) (Nat.le_refl _) hBr (by simp [LS.start]; omega) (pv_all HP.out) rfl rfl rfl).mono ?_
        rintro e w6 ⟨rfl, T', tc', U', uc', hS', hst'⟩
        go_wp2
        go_ret2
        exact .inl ⟨HOK.out, ⟨w.heap.size, g, mg, A, ca, l, ob, ga, j, rg, rc, rk, mb, cc⟩, T', tc', U', uc', rfl, rfl, rfl, rfl, hS', hb2.trans hst'.bel⟩
end Go.Proofs.Ytfgbbajkdpideaa
