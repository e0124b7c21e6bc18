/- A drawn instruction, one in n invalid: l20Code. -/
import Derived.Test.YtfgbbajkdpideaaDraw
import Derived.Deep.CutBlock
import Derived.Deep.MidRow
namespace Go.Proofs.Ytfgbbajkdpideaa
open Go.RowKit
set_option linter.unusedVariables false
set_option linter.unusedSimpArgs false

structure CSx (w0 : World) (B g K cb : Nat) (x : Cd) (w : World) : Prop where
  hx : w.heap[cb]? = some (.cells #[.int .i64 x.op, .int .i64 x.a, .int .i64 x.b, .int .i64 x.c] 50 (0, 0))
  hz : w.heap[w0.heap.size]? = some (.cells zeroC 50 (0, 0))
  hR : RdS w B g K
  hG : w0.grownBy w (some g)
  hc : w0.heap.size < cb
  hg : g < w0.heap.size
section
variable {w0 w w' : World} {B g K cb : Nat} {x : Cd}
theorem CSx.pick (h : CSx w0 B g K cb x w) {K' : Nat} (hR : RdS w' B g K') (hg : w.grownBy w' (some g)) : CSx w0 B g K' cb x w' := by
  have h1 := h.hc
  have h2 := h.hg
  exact ⟨(hg.block cb (lt_of_block h.hx) (fun e => by have := Option.some.inj e; omega)).trans h.hx, (hg.block _ (lt_of_block h.hz) (fun e => by have := Option.some.inj e; omega)).trans h.hz, hR, h.hG.trans hg, h.hc, h.hg⟩
theorem CSx.alloc (h : CSx w0 B g K cb x w) (o : Obj) : CSx w0 B g K cb x (w.alloc o) :=
  ⟨(Ext.alloc w o).heap_ h.hx, (Ext.alloc w o).heap_ h.hz, h.hR.alloc o, h.hG.trans (World.grownBy_alloc _ _ _), h.hc, h.hg⟩
theorem CSx.more (h : CSx w0 B g K cb x w) {K' : Nat} (hK : K ≤ K') : CSx w0 B g K' cb x w := ⟨h.hx, h.hz, h.hR.more hK, h.hG, h.hc, h.hg⟩
theorem CSx.row (h : CSx w0 B g K cb x w) (y : Cd) : CSx w0 B g K cb y (w.setRow cb #[.int .i64 y.op, .int .i64 y.a, .int .i64 y.b, .int .i64 y.c]) := by
  have h1 := h.hc
  have h2 := h.hg
  have h3 := h.hR.base
  exact ⟨heap_setRow_same h.hx, (heap_setRow_other (by omega)).trans h.hz, h.hR.off (grown_setRow cb _) (fun k e => by cases e; exact ⟨by omega, by omega⟩), grown_then h.hG (grown_setRow cb _) (by omega), h.hc, h.hg⟩
theorem CSx.cell (h : CSx w0 B g K cb x w) (i : Nat) (v : Int) (y : Cd) (hy : (#[Value.int .i64 x.op, .int .i64 x.a, .int .i64 x.b, .int .i64 x.c].setIfInBounds i (.int .i64 v)) = #[Value.int .i64 y.op, .int .i64 y.a, .int .i64 y.b, .int .i64 y.c]) : CSx w0 B g K cb y (w.setCell ⟨cb, i, none⟩ (.int .i64 v)) := by
  have h1 := h.hc
  have h2 := h.hg
  have h3 := h.hR.base
  refine ⟨?_, (heap_set_other (by omega) i _).trans h.hz, h.hR.off (grown_cell1 w cb i _) (fun k e => by cases e; exact ⟨by omega, by omega⟩), grown_then h.hG (grown_cell1 w cb i _) (by omega), h.hc, h.hg⟩
  rw [heap_set_same h.hx i, hy]
end

set_option maxRecDepth 100000 in
set_option maxHeartbeats 8000000 in
theorem l20Code_c {w : World} {B g K : Nat} (h : RdS w B g K) (hK : K ≤ 90000000) (n : Nat) (hn : n ≤ 1000) :
    Calls Try.prog 37 #[.pointer (some ⟨g, 0, none⟩), .int .i64 n] w fun e w' => ∃ x : Cd, e = .returned x.val ∧ RdS w' B g (K + 20) ∧ w.grownBy w' (some g) := by
  have hgw := h.lt
  have h1 := h.alloc (.cells zeroC 50)
  have hz1 := heap_alloc_new w (.cells zeroC 50)
  have hG1 : w.grownBy (w.alloc (.cells zeroC 50)) (some g) := World.grownBy_alloc _ _ _
  go_enter Try.func37, Try.ntmps37
  go_wp2_with fail
  refine (l20Plain_c h1 (by omega)).mono ?_
  rintro e w1 ⟨⟨xo, xa, xb, xc⟩, rfl, hR1, hg1⟩
  dsimp only [Cd.val]
  have hs1 : w.heap.size < w1.heap.size := by have := hg1.size; simp at this; omega
  have C0 : CSx w B g (K + 8) w1.heap.size ⟨xo, xa, xb, xc⟩ (w1.alloc (.cells #[.int .i64 xo, .int .i64 xa, .int .i64 xb, .int .i64 xc] 50)) :=
    ⟨heap_alloc_new _ _, (Ext.alloc w1 _).heap_ ((hg1.block _ (by simp) (fun e => by have := Option.some.inj e; omega)).trans hz1), hR1.alloc _, (hG1.trans hg1).trans (World.grownBy_alloc _ _ _), hs1, hgw⟩
  clear h h1 hz1 hG1 hR1 hg1
  go_wp2_with fail
  refine (pick_i C0.hR (by omega) _ (by decide) (by decide)).mono ?_
  rintro e w2 ⟨v, rfl, hv, hR, hg, -, -⟩
  have C1 := C0.pick hR hg
  clear C0 hR hg
  generalize w1.heap.size = cb at *
  go_upto_block 0 with fail
  go_cut [] from 6 (fun wx => ∃ y : Cd, CSx w B g (K + 12) cb y wx)
  case first =>
    have hcase : v = 0 ∨ v = 1 ∨ 2 ≤ v := by omega
    rcases hcase with rfl | rfl | h2
    · go_wp2_with fail
      refine (pick_i C1.hR (by omega) _ (by decide) (by decide)).mono ?_
      rintro e w3 ⟨v3, rfl, hv3, hR, hg, -, -⟩
      have C2 := C1.pick hR hg
      rename_i K1 hK1
      simp only []
      refine hK1 _ _ (wpList_step (fun K2 hK2 => ?_))
      go_simp
      refine hK2 _ _ (wpList_store_row rfl _ _ _ rfl cb rfl _ _ _ rfl C2.hx (by kernel_rfl) rfl (by simp [Value.oneCell']) (wpList_nil ?_))
      go_wp2_with fail
      go_meet
      exact ⟨⟨11, v3, 0, 0⟩, (C2.row ⟨11, v3, 0, 0⟩).more (by omega)⟩
    · go_wp2_with fail
      refine (pick_i C1.hR (by omega) _ (by decide) (by decide)).mono ?_
      rintro e w3 ⟨v3, rfl, hv3, hR, hg, -, -⟩
      have C2 := C1.pick hR hg
      clear C1 hR hg
      go_wp2_with fail
      refine (pick_i C2.hR (by omega) _ (by decide) (by decide)).mono ?_
      rintro e w4 ⟨v4, rfl, hv4, hR, hg, -, -⟩
      have C3 := C2.pick hR hg
      clear C2 hR hg
      have hw1 : IntKind.i64.wrap (1 + (v4 : Int)) = 1 + (v4 : Int) := IntWalk.i64_in _ (by omega)
      go_wp2_with fail
      have C4 := C3.alloc (.cells #[.int .i64 13, .int .i64 v3, .int .i64 (1 + (v4 : Int)), .int .i64 0, .int .i64 10, .int .i64 0, .int .i64 0, .int .i64 0, .int .i64 12, .int .i64 0, .int .i64 0, .int .i64 0, .int .i64 14, .int .i64 0, .int .i64 0, .int .i64 0] 50)
      have hl4 := heap_alloc_new w4 (.cells #[.int .i64 13, .int .i64 v3, .int .i64 (1 + (v4 : Int)), .int .i64 0, .int .i64 10, .int .i64 0, .int .i64 0, .int .i64 0, .int .i64 12, .int .i64 0, .int .i64 0, .int .i64 0, .int .i64 14, .int .i64 0, .int .i64 0, .int .i64 0] 50)
      have hlg : w4.heap.size ≠ g := by have := C3.hR.lt; omega
      refine (pick_i C4.hR (by omega) _ (by decide) (by decide)).mono ?_
      rintro e w5 ⟨v5, rfl, hv5, hR, hg, -, -⟩
      have C5 := C4.pick hR hg
      have hl5 := (hg.block _ (lt_of_block hl4) (fun e => hlg (Option.some.inj e))).trans hl4
      clear C3 C4 hR hg hl4
      rename_i K1 hK1
      simp only []
      refine hK1 _ _ (wpList_step (fun K2 hK2 => ?_))
      go_simp
      have h03 : v5 = 0 ∨ v5 = 1 ∨ v5 = 2 ∨ v5 = 3 := by omega
      rcases h03 with rfl | rfl | rfl | rfl
      · refine hK2 _ _ (wpList_load_mid rfl _ _ rfl _ _ rfl [.int .i64 13, .int .i64 v3, .int .i64 (1 + (v4 : Int)), .int .i64 0] _ (fun j u hu => ?_) (Try.underlying50) rfl (by kernel_rfl) ?_)
        · rw [cell_of_heap hl5, ← hu]
          have hj : j < 4 := by have := (List.getElem?_eq_some_iff.1 hu).1; simpa using this
          have hj4 : j = 0 ∨ j = 1 ∨ j = 2 ∨ j = 3 := by omega
          rcases hj4 with rfl | rfl | rfl | rfl <;> rfl
        · refine wpList_store_row rfl _ _ _ rfl cb rfl _ _ _ rfl C5.hx (by kernel_rfl) rfl (by simp [Value.oneCell']) (wpList_nil ?_)
          go_wp2_with fail
          go_meet
          exact ⟨⟨13, v3, (1 + (v4 : Int)), 0⟩, (C5.row ⟨13, v3, (1 + (v4 : Int)), 0⟩).more (by omega)⟩
      · refine hK2 _ _ (wpList_load_mid rfl _ _ rfl _ _ rfl [.int .i64 10, .int .i64 0, .int .i64 0, .int .i64 0] _ (fun j u hu => ?_) (Try.underlying50) rfl (by kernel_rfl) ?_)
        · rw [cell_of_heap hl5, ← hu]
          have hj : j < 4 := by have := (List.getElem?_eq_some_iff.1 hu).1; simpa using this
          have hj4 : j = 0 ∨ j = 1 ∨ j = 2 ∨ j = 3 := by omega
          rcases hj4 with rfl | rfl | rfl | rfl <;> rfl
        · refine wpList_store_row rfl _ _ _ rfl cb rfl _ _ _ rfl C5.hx (by kernel_rfl) rfl (by simp [Value.oneCell']) (wpList_nil ?_)
          go_wp2_with fail
          go_meet
          exact ⟨⟨10, 0, 0, 0⟩, (C5.row ⟨10, 0, 0, 0⟩).more (by omega)⟩
      · refine hK2 _ _ (wpList_load_mid rfl _ _ rfl _ _ rfl [.int .i64 12, .int .i64 0, .int .i64 0, .int .i64 0] _ (fun j u hu => ?_) (Try.underlying50) rfl (by kernel_rfl) ?_)
        · rw [cell_of_heap hl5, ← hu]
          have hj : j < 4 := by have := (List.getElem?_eq_some_iff.1 hu).1; simpa using this
          have hj4 : j = 0 ∨ j = 1 ∨ j = 2 ∨ j = 3 := by omega
          rcases hj4 with rfl | rfl | rfl | rfl <;> rfl
        · refine wpList_store_row rfl _ _ _ rfl cb rfl _ _ _ rfl C5.hx (by kernel_rfl) rfl (by simp [Value.oneCell']) (wpList_nil ?_)
          go_wp2_with fail
          go_meet
          exact ⟨⟨12, 0, 0, 0⟩, (C5.row ⟨12, 0, 0, 0⟩).more (by omega)⟩
      · refine hK2 _ _ (wpList_load_mid rfl _ _ rfl _ _ rfl [.int .i64 14, .int .i64 0, .int .i64 0, .int .i64 0] _ (fun j u hu => ?_) (Try.underlying50) rfl (by kernel_rfl) ?_)
        · rw [cell_of_heap hl5, ← hu]
          have hj : j < 4 := by have := (List.getElem?_eq_some_iff.1 hu).1; simpa using this
          have hj4 : j = 0 ∨ j = 1 ∨ j = 2 ∨ j = 3 := by omega
          rcases hj4 with rfl | rfl | rfl | rfl <;> rfl
        · refine wpList_store_row rfl _ _ _ rfl cb rfl _ _ _ rfl C5.hx (by kernel_rfl) rfl (by simp [Value.oneCell']) (wpList_nil ?_)
          go_wp2_with fail
          go_meet
          exact ⟨⟨14, 0, 0, 0⟩, (C5.row ⟨14, 0, 0, 0⟩).more (by omega)⟩
    · have b0 : ((v : Int) == 0) = false := by rw [beq_eq_false_iff_ne]; omega
      have b1 : ((v : Int) == 1) = false := by rw [beq_eq_false_iff_ne]; omega
      go_wp2_with fail
      go_meet
      exact ⟨_, C1.more (by omega)⟩
  case rest =>
    obtain ⟨y, C⟩ := hcut
    clear C1
    go_wp2_with fail
    refine (odd_c C.hR (by omega) n (by omega)).mono ?_
    rintro e w3 ⟨b, rfl, -, hR, hg, -⟩
    have C3 := C.pick hR hg
    clear C hR hg
    obtain ⟨yo, ya, yb, yc⟩ := y
    cases b with
    | false =>
      go_upto_region 16 with fail
      refine wp_region_lit (fin_row _ _ _ _ rfl rfl rfl rfl _ _ _ _ _ _ C3.hx C3.hz rfl rfl rfl _ (Try.underlying50) rfl (by kernel_rfl) rfl (by simp [Value.oneCell']) ?_)
      have hz9 := heap_setRow_same (cs := #[.int .i64 yo, .int .i64 ya, .int .i64 yb, .int .i64 yc]) C3.hz
      have hgz := C3.hg
      have hBg := C3.hR.base
      have hR9 := C3.hR.off (grown_setRow w.heap.size #[.int .i64 yo, .int .i64 ya, .int .i64 yb, .int .i64 yc]) (fun k e => by cases e; exact ⟨by omega, by omega⟩)
      have hG9 := grown_then C3.hG (grown_setRow w.heap.size #[.int .i64 yo, .int .i64 ya, .int .i64 yb, .int .i64 yc]) (Nat.le_refl _)
      go_wp2_with fail
      refine ret_cell Try.results37 _ rfl _ _ _ hz9 _ (Try.underlying50) rfl (by kernel_rfl) rfl ?_
      exact ⟨⟨yo, ya, yb, yc⟩, rfl, hR9.more (by omega), hG9⟩
    | true =>
      go_wp2_with fail
      refine (pick_i C3.hR (by omega) _ (by decide) (by decide)).mono ?_
      rintro e w4 ⟨v4, rfl, hv4, hR, hg, -, -⟩
      have C4 := C3.pick hR hg
      clear C3 hR hg
      have h03 : v4 = 0 ∨ v4 = 1 ∨ v4 = 2 ∨ v4 = 3 := by omega
      rcases h03 with rfl | rfl | rfl | rfl
      · have hl4 := heap_alloc_new w4 (.cells #[.int .i64 (0), .int .i64 (15)] 3)
        have C5 := C4.alloc (.cells #[.int .i64 (0), .int .i64 (15)] 3)
        have hlg : w4.heap.size ≠ g := by have := C4.hR.lt; omega
        have hlc : w4.heap.size ≠ cb := by have := lt_of_block C4.hx; omega
        go_wp2_with fail
        refine (pick_i C5.hR (by omega) _ (by decide) (by decide)).mono ?_
        rintro e w6 ⟨v6, rfl, hv6, hR, hg, -, -⟩
        have C6 := C5.pick hR hg
        have hl6 := (hg.block _ (lt_of_block hl4) (fun e => hlg (Option.some.inj e))).trans hl4
        clear C4 C5 hR hg hl4
        have hc0 := cell_of_heap C6.hx 0
        have hf0 := free_of_heap C6.hx 0
        have h0n : v6 = 0 ∨ v6 = 1 := by omega
        rcases h0n with rfl | rfl
        · have hl := cell_of_heap hl6 0
          have C7 := C6.cell 0 (0) ⟨(0), ya, yb, yc⟩ rfl
          go_upto_region 16 with fail
          refine wp_region_lit (fin_row _ _ _ _ rfl rfl rfl rfl _ _ _ _ _ _ C7.hx C7.hz rfl rfl rfl _ (Try.underlying50) rfl (by kernel_rfl) rfl (by simp [Value.oneCell']) ?_)
          have hz9 := heap_setRow_same (cs := #[.int .i64 (0), .int .i64 ya, .int .i64 yb, .int .i64 yc]) C7.hz
          have hgz := C7.hg
          have hBg := C7.hR.base
          have hR9 := C7.hR.off (grown_setRow w.heap.size #[.int .i64 (0), .int .i64 ya, .int .i64 yb, .int .i64 yc]) (fun k e => by cases e; exact ⟨by omega, by omega⟩)
          have hG9 := grown_then C7.hG (grown_setRow w.heap.size #[.int .i64 (0), .int .i64 ya, .int .i64 yb, .int .i64 yc]) (Nat.le_refl _)
          go_wp2_with fail
          refine ret_cell Try.results37 _ rfl _ _ _ hz9 _ (Try.underlying50) rfl (by kernel_rfl) rfl ?_
          exact ⟨⟨(0), ya, yb, yc⟩, rfl, hR9.more (by omega), hG9⟩
        · have hl := cell_of_heap hl6 1
          have C7 := C6.cell 0 (15) ⟨(15), ya, yb, yc⟩ rfl
          go_upto_region 16 with fail
          refine wp_region_lit (fin_row _ _ _ _ rfl rfl rfl rfl _ _ _ _ _ _ C7.hx C7.hz rfl rfl rfl _ (Try.underlying50) rfl (by kernel_rfl) rfl (by simp [Value.oneCell']) ?_)
          have hz9 := heap_setRow_same (cs := #[.int .i64 (15), .int .i64 ya, .int .i64 yb, .int .i64 yc]) C7.hz
          have hgz := C7.hg
          have hBg := C7.hR.base
          have hR9 := C7.hR.off (grown_setRow w.heap.size #[.int .i64 (15), .int .i64 ya, .int .i64 yb, .int .i64 yc]) (fun k e => by cases e; exact ⟨by omega, by omega⟩)
          have hG9 := grown_then C7.hG (grown_setRow w.heap.size #[.int .i64 (15), .int .i64 ya, .int .i64 yb, .int .i64 yc]) (Nat.le_refl _)
          go_wp2_with fail
          refine ret_cell Try.results37 _ rfl _ _ _ hz9 _ (Try.underlying50) rfl (by kernel_rfl) rfl ?_
          exact ⟨⟨(15), ya, yb, yc⟩, rfl, hR9.more (by omega), hG9⟩
      · have hl4 := heap_alloc_new w4 (.cells #[.int .i64 (-1), .int .i64 (4)] 3)
        have C5 := C4.alloc (.cells #[.int .i64 (-1), .int .i64 (4)] 3)
        have hlg : w4.heap.size ≠ g := by have := C4.hR.lt; omega
        have hlc : w4.heap.size ≠ cb := by have := lt_of_block C4.hx; omega
        go_wp2_with fail
        refine (pick_i C5.hR (by omega) _ (by decide) (by decide)).mono ?_
        rintro e w6 ⟨v6, rfl, hv6, hR, hg, -, -⟩
        have C6 := C5.pick hR hg
        have hl6 := (hg.block _ (lt_of_block hl4) (fun e => hlg (Option.some.inj e))).trans hl4
        clear C4 C5 hR hg hl4
        have hc1 := cell_of_heap C6.hx 1
        have hf1 := free_of_heap C6.hx 1
        have h0n : v6 = 0 ∨ v6 = 1 := by omega
        rcases h0n with rfl | rfl
        · have hl := cell_of_heap hl6 0
          have C7 := C6.cell 1 (-1) ⟨yo, (-1), yb, yc⟩ rfl
          go_upto_region 16 with fail
          refine wp_region_lit (fin_row _ _ _ _ rfl rfl rfl rfl _ _ _ _ _ _ C7.hx C7.hz rfl rfl rfl _ (Try.underlying50) rfl (by kernel_rfl) rfl (by simp [Value.oneCell']) ?_)
          have hz9 := heap_setRow_same (cs := #[.int .i64 yo, .int .i64 (-1), .int .i64 yb, .int .i64 yc]) C7.hz
          have hgz := C7.hg
          have hBg := C7.hR.base
          have hR9 := C7.hR.off (grown_setRow w.heap.size #[.int .i64 yo, .int .i64 (-1), .int .i64 yb, .int .i64 yc]) (fun k e => by cases e; exact ⟨by omega, by omega⟩)
          have hG9 := grown_then C7.hG (grown_setRow w.heap.size #[.int .i64 yo, .int .i64 (-1), .int .i64 yb, .int .i64 yc]) (Nat.le_refl _)
          go_wp2_with fail
          refine ret_cell Try.results37 _ rfl _ _ _ hz9 _ (Try.underlying50) rfl (by kernel_rfl) rfl ?_
          exact ⟨⟨yo, (-1), yb, yc⟩, rfl, hR9.more (by omega), hG9⟩
        · have hl := cell_of_heap hl6 1
          have C7 := C6.cell 1 (4) ⟨yo, (4), yb, yc⟩ rfl
          go_upto_region 16 with fail
          refine wp_region_lit (fin_row _ _ _ _ rfl rfl rfl rfl _ _ _ _ _ _ C7.hx C7.hz rfl rfl rfl _ (Try.underlying50) rfl (by kernel_rfl) rfl (by simp [Value.oneCell']) ?_)
          have hz9 := heap_setRow_same (cs := #[.int .i64 yo, .int .i64 (4), .int .i64 yb, .int .i64 yc]) C7.hz
          have hgz := C7.hg
          have hBg := C7.hR.base
          have hR9 := C7.hR.off (grown_setRow w.heap.size #[.int .i64 yo, .int .i64 (4), .int .i64 yb, .int .i64 yc]) (fun k e => by cases e; exact ⟨by omega, by omega⟩)
          have hG9 := grown_then C7.hG (grown_setRow w.heap.size #[.int .i64 yo, .int .i64 (4), .int .i64 yb, .int .i64 yc]) (Nat.le_refl _)
          go_wp2_with fail
          refine ret_cell Try.results37 _ rfl _ _ _ hz9 _ (Try.underlying50) rfl (by kernel_rfl) rfl ?_
          exact ⟨⟨yo, (4), yb, yc⟩, rfl, hR9.more (by omega), hG9⟩
      · have hl4 := heap_alloc_new w4 (.cells #[.int .i64 (-1), .int .i64 (256)] 3)
        have C5 := C4.alloc (.cells #[.int .i64 (-1), .int .i64 (256)] 3)
        have hlg : w4.heap.size ≠ g := by have := C4.hR.lt; omega
        have hlc : w4.heap.size ≠ cb := by have := lt_of_block C4.hx; omega
        go_wp2_with fail
        refine (pick_i C5.hR (by omega) _ (by decide) (by decide)).mono ?_
        rintro e w6 ⟨v6, rfl, hv6, hR, hg, -, -⟩
        have C6 := C5.pick hR hg
        have hl6 := (hg.block _ (lt_of_block hl4) (fun e => hlg (Option.some.inj e))).trans hl4
        clear C4 C5 hR hg hl4
        have hc2 := cell_of_heap C6.hx 2
        have hf2 := free_of_heap C6.hx 2
        have h0n : v6 = 0 ∨ v6 = 1 := by omega
        rcases h0n with rfl | rfl
        · have hl := cell_of_heap hl6 0
          have C7 := C6.cell 2 (-1) ⟨yo, ya, (-1), yc⟩ rfl
          go_upto_region 16 with fail
          refine wp_region_lit (fin_row _ _ _ _ rfl rfl rfl rfl _ _ _ _ _ _ C7.hx C7.hz rfl rfl rfl _ (Try.underlying50) rfl (by kernel_rfl) rfl (by simp [Value.oneCell']) ?_)
          have hz9 := heap_setRow_same (cs := #[.int .i64 yo, .int .i64 ya, .int .i64 (-1), .int .i64 yc]) C7.hz
          have hgz := C7.hg
          have hBg := C7.hR.base
          have hR9 := C7.hR.off (grown_setRow w.heap.size #[.int .i64 yo, .int .i64 ya, .int .i64 (-1), .int .i64 yc]) (fun k e => by cases e; exact ⟨by omega, by omega⟩)
          have hG9 := grown_then C7.hG (grown_setRow w.heap.size #[.int .i64 yo, .int .i64 ya, .int .i64 (-1), .int .i64 yc]) (Nat.le_refl _)
          go_wp2_with fail
          refine ret_cell Try.results37 _ rfl _ _ _ hz9 _ (Try.underlying50) rfl (by kernel_rfl) rfl ?_
          exact ⟨⟨yo, ya, (-1), yc⟩, rfl, hR9.more (by omega), hG9⟩
        · have hl := cell_of_heap hl6 1
          have C7 := C6.cell 2 (256) ⟨yo, ya, (256), yc⟩ rfl
          go_upto_region 16 with fail
          refine wp_region_lit (fin_row _ _ _ _ rfl rfl rfl rfl _ _ _ _ _ _ C7.hx C7.hz rfl rfl rfl _ (Try.underlying50) rfl (by kernel_rfl) rfl (by simp [Value.oneCell']) ?_)
          have hz9 := heap_setRow_same (cs := #[.int .i64 yo, .int .i64 ya, .int .i64 (256), .int .i64 yc]) C7.hz
          have hgz := C7.hg
          have hBg := C7.hR.base
          have hR9 := C7.hR.off (grown_setRow w.heap.size #[.int .i64 yo, .int .i64 ya, .int .i64 (256), .int .i64 yc]) (fun k e => by cases e; exact ⟨by omega, by omega⟩)
          have hG9 := grown_then C7.hG (grown_setRow w.heap.size #[.int .i64 yo, .int .i64 ya, .int .i64 (256), .int .i64 yc]) (Nat.le_refl _)
          go_wp2_with fail
          refine ret_cell Try.results37 _ rfl _ _ _ hz9 _ (Try.underlying50) rfl (by kernel_rfl) rfl ?_
          exact ⟨⟨yo, ya, (256), yc⟩, rfl, hR9.more (by omega), hG9⟩
      · have hl4 := heap_alloc_new w4 (.cells #[.int .i64 (-1), .int .i64 (4), .int .i64 (1)] 3)
        have C5 := C4.alloc (.cells #[.int .i64 (-1), .int .i64 (4), .int .i64 (1)] 3)
        have hlg : w4.heap.size ≠ g := by have := C4.hR.lt; omega
        have hlc : w4.heap.size ≠ cb := by have := lt_of_block C4.hx; omega
        go_wp2_with fail
        refine (pick_i C5.hR (by omega) _ (by decide) (by decide)).mono ?_
        rintro e w6 ⟨v6, rfl, hv6, hR, hg, -, -⟩
        have C6 := C5.pick hR hg
        have hl6 := (hg.block _ (lt_of_block hl4) (fun e => hlg (Option.some.inj e))).trans hl4
        clear C4 C5 hR hg hl4
        have hc3 := cell_of_heap C6.hx 3
        have hf3 := free_of_heap C6.hx 3
        have h0n : v6 = 0 ∨ v6 = 1 ∨ v6 = 2 := by omega
        rcases h0n with rfl | rfl | rfl
        · have hl := cell_of_heap hl6 0
          have C7 := C6.cell 3 (-1) ⟨yo, ya, yb, (-1)⟩ rfl
          go_upto_region 16 with fail
          refine wp_region_lit (fin_row _ _ _ _ rfl rfl rfl rfl _ _ _ _ _ _ C7.hx C7.hz rfl rfl rfl _ (Try.underlying50) rfl (by kernel_rfl) rfl (by simp [Value.oneCell']) ?_)
          have hz9 := heap_setRow_same (cs := #[.int .i64 yo, .int .i64 ya, .int .i64 yb, .int .i64 (-1)]) C7.hz
          have hgz := C7.hg
          have hBg := C7.hR.base
          have hR9 := C7.hR.off (grown_setRow w.heap.size #[.int .i64 yo, .int .i64 ya, .int .i64 yb, .int .i64 (-1)]) (fun k e => by cases e; exact ⟨by omega, by omega⟩)
          have hG9 := grown_then C7.hG (grown_setRow w.heap.size #[.int .i64 yo, .int .i64 ya, .int .i64 yb, .int .i64 (-1)]) (Nat.le_refl _)
          go_wp2_with fail
          refine ret_cell Try.results37 _ rfl _ _ _ hz9 _ (Try.underlying50) rfl (by kernel_rfl) rfl ?_
          exact ⟨⟨yo, ya, yb, (-1)⟩, rfl, hR9.more (by omega), hG9⟩
        · have hl := cell_of_heap hl6 1
          have C7 := C6.cell 3 (4) ⟨yo, ya, yb, (4)⟩ rfl
          go_upto_region 16 with fail
          refine wp_region_lit (fin_row _ _ _ _ rfl rfl rfl rfl _ _ _ _ _ _ C7.hx C7.hz rfl rfl rfl _ (Try.underlying50) rfl (by kernel_rfl) rfl (by simp [Value.oneCell']) ?_)
          have hz9 := heap_setRow_same (cs := #[.int .i64 yo, .int .i64 ya, .int .i64 yb, .int .i64 (4)]) C7.hz
          have hgz := C7.hg
          have hBg := C7.hR.base
          have hR9 := C7.hR.off (grown_setRow w.heap.size #[.int .i64 yo, .int .i64 ya, .int .i64 yb, .int .i64 (4)]) (fun k e => by cases e; exact ⟨by omega, by omega⟩)
          have hG9 := grown_then C7.hG (grown_setRow w.heap.size #[.int .i64 yo, .int .i64 ya, .int .i64 yb, .int .i64 (4)]) (Nat.le_refl _)
          go_wp2_with fail
          refine ret_cell Try.results37 _ rfl _ _ _ hz9 _ (Try.underlying50) rfl (by kernel_rfl) rfl ?_
          exact ⟨⟨yo, ya, yb, (4)⟩, rfl, hR9.more (by omega), hG9⟩
        · have hl := cell_of_heap hl6 2
          have C7 := C6.cell 3 (1) ⟨yo, ya, yb, (1)⟩ rfl
          go_upto_region 16 with fail
          refine wp_region_lit (fin_row _ _ _ _ rfl rfl rfl rfl _ _ _ _ _ _ C7.hx C7.hz rfl rfl rfl _ (Try.underlying50) rfl (by kernel_rfl) rfl (by simp [Value.oneCell']) ?_)
          have hz9 := heap_setRow_same (cs := #[.int .i64 yo, .int .i64 ya, .int .i64 yb, .int .i64 (1)]) C7.hz
          have hgz := C7.hg
          have hBg := C7.hR.base
          have hR9 := C7.hR.off (grown_setRow w.heap.size #[.int .i64 yo, .int .i64 ya, .int .i64 yb, .int .i64 (1)]) (fun k e => by cases e; exact ⟨by omega, by omega⟩)
          have hG9 := grown_then C7.hG (grown_setRow w.heap.size #[.int .i64 yo, .int .i64 ya, .int .i64 yb, .int .i64 (1)]) (Nat.le_refl _)
          go_wp2_with fail
          refine ret_cell Try.results37 _ rfl _ _ _ hz9 _ (Try.underlying50) rfl (by kernel_rfl) rfl ?_
          exact ⟨⟨yo, ya, yb, (1)⟩, rfl, hR9.more (by omega), hG9⟩
end Go.Proofs.Ytfgbbajkdpideaa
