/- Part 17 of what the claim needs. -/
import Derived.Test.YtelbfeidpcojmaaGreatSa3
import Derived.Test.YtelbfeidpcojmaaGreatSa4
import Derived.Test.YtelbfeidpcojmaaGreatSa6
import Derived.Test.YtelbfeidpcojmaaGreatSa16
import Derived.Deep.CutBlock
import Derived.Deep.MidRow
namespace Go.Proofs.YtelbfeidpcojmaaGreat
open Go.RowKit
set_option linter.unusedVariables false
set_option linter.unusedSimpArgs false

structure CSx (w0 : World) (B g K cb : Nat) (x : Cd) (w : World) : Prop where
  hx : w.heap[cb]? = some (.cells #[.int .i64 x.op, .int .i64 x.a, .int .i64 x.b, .int .i64 x.c] 76 (0, 0))
  hz : w.heap[w0.heap.size]? = some (.cells zeroC 76 (0, 0))
  hR : RdS w B g K
  hG : w0.grownBy w (some g)
  hc : w0.heap.size < cb
  hg : g < w0.heap.size
section
variable {w0 w w' : World} {B g K cb : Nat} {x : Cd}
theorem CSx.pick (h : CSx w0 B g K cb x w) {K' : Nat} (hR : RdS w' B g K') (hg : w.grownBy w' (some g)) : CSx w0 B g K' cb x w' := by
  have h1 := h.hc
  have h2 := h.hg
  exact ⟨(hg.block cb (lt_of_block h.hx) (fun e => by have := Option.some.inj e; omega)).trans h.hx, (hg.block _ (lt_of_block h.hz) (fun e => by have := Option.some.inj e; omega)).trans h.hz, hR, h.hG.trans hg, h.hc, h.hg⟩
theorem CSx.alloc (h : CSx w0 B g K cb x w) (o : Obj) : CSx w0 B g K cb x (w.alloc o) :=
  ⟨(Ext.alloc w o).heap_ h.hx, (Ext.alloc w o).heap_ h.hz, h.hR.alloc o, h.hG.trans (World.grownBy_alloc _ _ _), h.hc, h.hg⟩
theorem CSx.more (h : CSx w0 B g K cb x w) {K' : Nat} (hK : K ≤ K') : CSx w0 B g K' cb x w := ⟨h.hx, h.hz, h.hR.more hK, h.hG, h.hc, h.hg⟩
theorem CSx.row (h : CSx w0 B g K cb x w) (y : Cd) : CSx w0 B g K cb y (w.setRow cb #[.int .i64 y.op, .int .i64 y.a, .int .i64 y.b, .int .i64 y.c]) := by
  have h1 := h.hc
  have h2 := h.hg
  have h3 := h.hR.base
  exact ⟨heap_setRow_same h.hx, (heap_setRow_other (by omega)).trans h.hz, h.hR.off (grown_setRow cb _) (fun k e => by cases e; exact ⟨by omega, by omega⟩), grown_then h.hG (grown_setRow cb _) (by omega), h.hc, h.hg⟩
theorem CSx.cell (h : CSx w0 B g K cb x w) (i : Nat) (v : Int) (y : Cd) (hy : (#[Value.int .i64 x.op, .int .i64 x.a, .int .i64 x.b, .int .i64 x.c].setIfInBounds i (.int .i64 v)) = #[Value.int .i64 y.op, .int .i64 y.a, .int .i64 y.b, .int .i64 y.c]) : CSx w0 B g K cb y (w.setCell ⟨cb, i, none⟩ (.int .i64 v)) := by
  have h1 := h.hc
  have h2 := h.hg
  have h3 := h.hR.base
  refine ⟨?_, (heap_set_other (by omega) i _).trans h.hz, h.hR.off (grown_cell1 w cb i _) (fun k e => by cases e; exact ⟨by omega, by omega⟩), grown_then h.hG (grown_cell1 w cb i _) (by omega), h.hc, h.hg⟩
  rw [heap_set_same h.hx i, hy]
end

set_option maxRecDepth 100000 in
set_option maxHeartbeats 8000000 in
theorem l20Code_c {w : World} {B g K : Nat} (h : RdS w B g K) (hK : K ≤ 90000000) (n : Nat) (hn : n ≤ 1000) :
    Calls Tryz.prog 81 #[.pointer (some ⟨g, 0, none⟩), .int .i64 n] w fun e w' => ∃ x : Cd, e = .returned x.val ∧ RdS w' B g (K + 20) ∧ w.grownBy w' (some g) := by
  have hgw := h.lt
  have h1 := h.alloc (.cells zeroC 76)
  have hz1 := heap_alloc_new w (.cells zeroC 76)
  have hG1 : w.grownBy (w.alloc (.cells zeroC 76)) (some g) := World.grownBy_alloc _ _ _
  go_enter Tryz.func81, Tryz.ntmps81
  go_wp2_with fail
  refine (l20Plain_c h1 (by omega)).mono ?_
  rintro e w1 ⟨⟨xo, xa, xb, xc⟩, rfl, hR1, hg1⟩
  dsimp only [Cd.val]
  have hs1 : w.heap.size < w1.heap.size := by have := hg1.size; simp at this; omega
  have C0 : CSx w B g (K + 8) w1.heap.size ⟨xo, xa, xb, xc⟩ (w1.alloc (.cells #[.int .i64 xo, .int .i64 xa, .int .i64 xb, .int .i64 xc] 76)) :=
    ⟨heap_alloc_new _ _, (Ext.alloc w1 _).heap_ ((hg1.block _ (by simp) (fun e => by have := Option.some.inj e; omega)).trans hz1), hR1.alloc _, (hG1.trans hg1).trans (World.grownBy_alloc _ _ _), hs1, hgw⟩
  clear h h1 hz1 hG1 hR1 hg1
  go_wp2_with fail
  refine (pick_i C0.hR (by omega) _ (by decide) (by decide)).mono ?_
  rintro e w2 ⟨v, rfl, hv, hR, hg, -, -⟩
  have C1 := C0.pick hR hg
  clear C0 hR hg
  generalize w1.heap.size = cb at *
  go_upto_block 0 with fail
  go_cut [] from 6 (fun wx => ∃ y : Cd, CSx w B g (K + 12) cb y wx)
  case first =>
    have hcase : v = 0 ∨ v = 1 ∨ 2 ≤ v := by omega
    rcases hcase with rfl | rfl | h2
    · go_wp2_with fail
      refine (pick_i C1.hR (by omega) _ (by decide) (by decide)).mono ?_
      rintro e w3 ⟨v3, rfl, hv3, hR, hg, -, -⟩
      have C2 := C1.pick hR hg
      rename_i K1 hK1
      simp only []
      refine hK1 _ _ (wpList_step (fun K2 hK2 => ?_))
      go_simp
      refine hK2 _ _ (wpList_store_row rfl _ _ _ rfl cb rfl _ _ _ rfl C2.hx (by kernel_rfl) rfl (by simp [Value.oneCell']) (wpList_nil ?_))
      go_wp2_with fail
      go_meet
      exact ⟨⟨11, v3, 0, 0⟩, (C2.row ⟨11, v3, 0, 0⟩).more (by omega)⟩
    · go_wp2_with fail
      refine (pick_i C1.hR (by omega) _ (by decide) (by decide)).mono ?_
      rintro e w3 ⟨v3, rfl, hv3, hR, hg, -, -⟩
      have C2 := C1.pick hR hg
      clear C1 hR hg
      go_wp2_with fail
      refine (pick_i C2.hR (by omega) _ (by decide) (by decide)).mono ?_
      rintro e w4 ⟨v4, rfl, hv4, hR, hg, -, -⟩
      have C3 := C2.pick hR hg
      clear C2 hR hg
      have hw1 : IntKind.i64.wrap (1 + (v4 : Int)) = 1 + (v4 : Int) := IntWalk.i64_in _ (by omega)
      go_wp2_with fail
      have C4 := C3.alloc (.cells #[.int .i64 13, .int .i64 v3, .int .i64 (1 + (v4 : Int)), .int .i64 0, .int .i64 10, .int .i64 0, .int .i64 0, .int .i64 0, .int .i64 12, .int .i64 0, .int .i64 0, .int .i64 0, .int .i64 14, .int .i64 0, .int .i64 0, .int .i64 0] 76)
      have hl4 := heap_alloc_new w4 (.cells #[.int .i64 13, .int .i64 v3, .int .i64 (1 + (v4 : Int)), .int .i64 0, .int .i64 10, .int .i64 0, .int .i64 0, .int .i64 0, .int .i64 12, .int .i64 0, .int .i64 0, .int .i64 0, .int .i64 14, .int .i64 0, .int .i64 0, .int .i64 0] 76)
      have hlg : w4.heap.size ≠ g := by have := C3.hR.lt; omega
      refine (pick_i C4.hR (by omega) _ (by decide) (by decide)).mono ?_
      rintro e w5 ⟨v5, rfl, hv5, hR, hg, -, -⟩
      have C5 := C4.pick hR hg
      have hl5 := (hg.block _ (lt_of_block hl4) (fun e => hlg (Option.some.inj e))).trans hl4
      clear C3 C4 hR hg hl4
      rename_i K1 hK1
      simp only []
      refine hK1 _ _ (wpList_step (fun K2 hK2 => ?_))
      go_simp
      have h03 : v5 = 0 ∨ v5 = 1 ∨ v5 = 2 ∨ v5 = 3 := by omega
      rcases h03 with rfl | rfl | rfl | rfl
      · refine hK2 _ _ (wpList_load_mid rfl _ _ rfl _ _ rfl [.int .i64 13, .int .i64 v3, .int .i64 (1 + (v4 : Int)), .int .i64 0] _ (fun j u hu => ?_) (Tryz.underlying76) rfl (by kernel_rfl) ?_)
        · rw [cell_of_heap hl5, ← hu]
          have hj : j < 4 := by have := (List.getElem?_eq_some_iff.1 hu).1; simpa using this
          have hj4 : j = 0 ∨ j = 1 ∨ j = 2 ∨ j = 3 := by omega
          rcases hj4 with rfl | rfl | rfl | rfl <;> rfl
        · refine wpList_store_row rfl _ _ _ rfl cb rfl _ _ _ rfl C5.hx (by kernel_rfl) rfl (by simp [Value.oneCell']) (wpList_nil ?_)
          go_wp2_with fail
          go_meet
          exact ⟨⟨13, v3, (1 + (v4 : Int)), 0⟩, (C5.row ⟨13, v3, (1 + (v4 : Int)), 0⟩).more (by omega)⟩
      · refine hK2 _ _ (wpList_load_mid rfl _ _ rfl _ _ rfl [.int .i64 10, .int .i64 0, .int .i64 0, .int .i64 0] _ (fun j u hu => ?_) (Tryz.underlying76) rfl (by kernel_rfl) ?_)
        · rw [cell_of_heap hl5, ← hu]
          have hj : j < 4 := by have := (List.getElem?_eq_some_iff.1 hu).1; simpa using this
          have hj4 : j = 0 ∨ j = 1 ∨ j = 2 ∨ j = 3 := by omega
          rcases hj4 with rfl | rfl | rfl | rfl <;> rfl
        · refine wpList_store_row rfl _ _ _ rfl cb rfl _ _ _ rfl C5.hx (by kernel_rfl) rfl (by simp [Value.oneCell']) (wpList_nil ?_)
          go_wp2_with fail
          go_meet
          exact ⟨⟨10, 0, 0, 0⟩, (C5.row ⟨10, 0, 0, 0⟩).more (by omega)⟩
      · refine hK2 _ _ (wpList_load_mid rfl _ _ rfl _ _ rfl [.int .i64 12, .int .i64 0, .int .i64 0, .int .i64 0] _ (fun j u hu => ?_) (Tryz.underlying76) rfl (by kernel_rfl) ?_)
        · rw [cell_of_heap hl5, ← hu]
          have hj : j < 4 := by have := (List.getElem?_eq_some_iff.1 hu).1; simpa using this
          have hj4 : j = 0 ∨ j = 1 ∨ j = 2 ∨ j = 3 := by omega
          rcases hj4 with rfl | rfl | rfl | rfl <;> rfl
        · refine wpList_store_row rfl _ _ _ rfl cb rfl _ _ _ rfl C5.hx (by kernel_rfl) rfl (by simp [Value.oneCell']) (wpList_nil ?_)
          go_wp2_with fail
          go_meet
          exact ⟨⟨12, 0, 0, 0⟩, (C5.row ⟨12, 0, 0, 0⟩).more (by omega)⟩
      · refine hK2 _ _ (wpList_load_mid rfl _ _ rfl _ _ rfl [.int .i64 14, .int .i64 0, .int .i64 0, .int .i64 0] _ (fun j u hu => ?_) (Tryz.underlying76) rfl (by kernel_rfl) ?_)
        · rw [cell_of_heap hl5, ← hu]
          have hj : j < 4 := by have := (List.getElem?_eq_some_iff.1 hu).1; simpa using this
          have hj4 : j = 0 ∨ j = 1 ∨ j = 2 ∨ j = 3 := by omega
          rcases hj4 with rfl | rfl | rfl | rfl <;> rfl
        · refine wpList_store_row rfl _ _ _ rfl cb rfl _ _ _ rfl C5.hx (by kernel_rfl) rfl (by simp [Value.oneCell']) (wpList_nil ?_)
          go_wp2_with fail
          go_meet
          exact ⟨⟨14, 0, 0, 0⟩, (C5.row ⟨14, 0, 0, 0⟩).more (by omega)⟩
    · have b0 : ((v : Int) == 0) = false := by rw [beq_eq_false_iff_ne]; omega
      have b1 : ((v : Int) == 1) = false := by rw [beq_eq_false_iff_ne]; omega
      go_wp2_with fail
      go_meet
      exact ⟨_, C1.more (by omega)⟩
  case rest =>
    obtain ⟨y, C⟩ := hcut
    clear C1
    go_wp2_with fail
    refine (odd_c C.hR (by omega) n (by omega)).mono ?_
    rintro e w3 ⟨b, rfl, -, hR, hg, -⟩
    have C3 := C.pick hR hg
    clear C hR hg
    obtain ⟨yo, ya, yb, yc⟩ := y
    cases b with
    | false =>
      go_upto_region 16 with fail
      refine wp_region_lit (fin_row _ _ _ _ rfl rfl rfl rfl _ _ _ _ _ _ C3.hx C3.hz rfl rfl rfl _ (Tryz.underlying76) rfl (by kernel_rfl) rfl (by simp [Value.oneCell']) ?_)
      have hz9 := heap_setRow_same (cs := #[.int .i64 yo, .int .i64 ya, .int .i64 yb, .int .i64 yc]) C3.hz
      have hgz := C3.hg
      have hBg := C3.hR.base
      have hR9 := C3.hR.off (grown_setRow w.heap.size #[.int .i64 yo, .int .i64 ya, .int .i64 yb, .int .i64 yc]) (fun k e => by cases e; exact ⟨by omega, by omega⟩)
      have hG9 := grown_then C3.hG (grown_setRow w.heap.size #[.int .i64 yo, .int .i64 ya, .int .i64 yb, .int .i64 yc]) (Nat.le_refl _)
      go_wp2_with fail
      refine ret_cell Tryz.results81 _ rfl _ _ _ hz9 _ (Tryz.underlying76) rfl (by kernel_rfl) rfl ?_
      exact ⟨⟨yo, ya, yb, yc⟩, rfl, hR9.more (by omega), hG9⟩
    | true =>
      go_wp2_with fail
      refine (pick_i C3.hR (by omega) _ (by decide) (by decide)).mono ?_
      rintro e w4 ⟨v4, rfl, hv4, hR, hg, -, -⟩
      have C4 := C3.pick hR hg
      clear C3 hR hg
      have h03 : v4 = 0 ∨ v4 = 1 ∨ v4 = 2 ∨ v4 = 3 := by omega
      rcases h03 with rfl | rfl | rfl | rfl
      · have hl4 := heap_alloc_new w4 (.cells #[.int .i64 (0), .int .i64 (15)] 3)
        have C5 := C4.alloc (.cells #[.int .i64 (0), .int .i64 (15)] 3)
        have hlg : w4.heap.size ≠ g := by have := C4.hR.lt; omega
        have hlc : w4.heap.size ≠ cb := by have := lt_of_block C4.hx; omega
        go_wp2_with fail
        refine (pick_i C5.hR (by omega) _ (by decide) (by decide)).mono ?_
        rintro e w6 ⟨v6, rfl, hv6, hR, hg, -, -⟩
        have C6 := C5.pick hR hg
        have hl6 := (hg.block _ (lt_of_block hl4) (fun e => hlg (Option.some.inj e))).trans hl4
        clear C4 C5 hR hg hl4
        have hc0 := cell_of_heap C6.hx 0
        have hf0 := free_of_heap C6.hx 0
        have h0n : v6 = 0 ∨ v6 = 1 := by omega
        rcases h0n with rfl | rfl
        · have hl := cell_of_heap hl6 0
          have C7 := C6.cell 0 (0) ⟨(0), ya, yb, yc⟩ rfl
          go_upto_region 16 with fail
          refine wp_region_lit (fin_row _ _ _ _ rfl rfl rfl rfl _ _ _ _ _ _ C7.hx C7.hz rfl rfl rfl _ (Tryz.underlying76) rfl (by kernel_rfl) rfl (by simp [Value.oneCell']) ?_)
          have hz9 := heap_setRow_same (cs := #[.int .i64 (0), .int .i64 ya, .int .i64 yb, .int .i64 yc]) C7.hz
          have hgz := C7.hg
          have hBg := C7.hR.base
          have hR9 := C7.hR.off (grown_setRow w.heap.size #[.int .i64 (0), .int .i64 ya, .int .i64 yb, .int .i64 yc]) (fun k e => by cases e; exact ⟨by omega, by omega⟩)
          have hG9 := grown_then C7.hG (grown_setRow w.heap.size #[.int .i64 (0), .int .i64 ya, .int .i64 yb, .int .i64 yc]) (Nat.le_refl _)
          go_wp2_with fail
          refine ret_cell Tryz.results81 _ rfl _ _ _ hz9 _ (Tryz.underlying76) rfl (by kernel_rfl) rfl ?_
          exact ⟨⟨(0), ya, yb, yc⟩, rfl, hR9.more (by omega), hG9⟩
        · have hl := cell_of_heap hl6 1
          have C7 := C6.cell 0 (15) ⟨(15), ya, yb, yc⟩ rfl
          go_upto_region 16 with fail
          refine wp_region_lit (fin_row _ _ _ _ rfl rfl rfl rfl _ _ _ _ _ _ C7.hx C7.hz rfl rfl rfl _ (Tryz.underlying76) rfl (by kernel_rfl) rfl (by simp [Value.oneCell']) ?_)
          have hz9 := heap_setRow_same (cs := #[.int .i64 (15), .int .i64 ya, .int .i64 yb, .int .i64 yc]) C7.hz
          have hgz := C7.hg
          have hBg := C7.hR.base
          have hR9 := C7.hR.off (grown_setRow w.heap.size #[.int .i64 (15), .int .i64 ya, .int .i64 yb, .int .i64 yc]) (fun k e => by cases e; exact ⟨by omega, by omega⟩)
          have hG9 := grown_then C7.hG (grown_setRow w.heap.size #[.int .i64 (15), .int .i64 ya, .int .i64 yb, .int .i64 yc]) (Nat.le_refl _)
          go_wp2_with fail
          refine ret_cell Tryz.results81 _ rfl _ _ _ hz9 _ (Tryz.underlying76) rfl (by kernel_rfl) rfl ?_
          exact ⟨⟨(15), ya, yb, yc⟩, rfl, hR9.more (by omega), hG9⟩
      · have hl4 := heap_alloc_new w4 (.cells #[.int .i64 (-1), .int .i64 (4)] 3)
        have C5 := C4.alloc (.cells #[.int .i64 (-1), .int .i64 (4)] 3)
        have hlg : w4.heap.size ≠ g := by have := C4.hR.lt; omega
        have hlc : w4.heap.size ≠ cb := by have := lt_of_block C4.hx; omega
        go_wp2_with fail
        refine (pick_i C5.hR (by omega) _ (by decide) (by decide)).mono ?_
        rintro e w6 ⟨v6, rfl, hv6, hR, hg, -, -⟩
        have C6 := C5.pick hR hg
        have hl6 := (hg.block _ (lt_of_block hl4) (fun e => hlg (Option.some.inj e))).trans hl4
        clear C4 C5 hR hg hl4
        have hc1 := cell_of_heap C6.hx 1
        have hf1 := free_of_heap C6.hx 1
        have h0n : v6 = 0 ∨ v6 = 1 := by omega
        rcases h0n with rfl | rfl
        · have hl := cell_of_heap hl6 0
          have C7 := C6.cell 1 (-1) ⟨yo, (-1), yb, yc⟩ rfl
          go_upto_region 16 with fail
          refine wp_region_lit (fin_row _ _ _ _ rfl rfl rfl rfl _ _ _ _ _ _ C7.hx C7.hz rfl rfl rfl _ (Tryz.underlying76) rfl (by kernel_rfl) rfl (by simp [Value.oneCell']) ?_)
          have hz9 := heap_setRow_same (cs := #[.int .i64 yo, .int .i64 (-1), .int .i64 yb, .int .i64 yc]) C7.hz
          have hgz := C7.hg
          have hBg := C7.hR.base
          have hR9 := C7.hR.off (grown_setRow w.heap.size #[.int .i64 yo, .int .i64 (-1), .int .i64 yb, .int .i64 yc]) (fun k e => by cases e; exact ⟨by omega, by omega⟩)
          have hG9 := grown_then C7.hG (grown_setRow w.heap.size #[.int .i64 yo, .int .i64 (-1), .int .i64 yb, .int .i64 yc]) (Nat.le_refl _)
          go_wp2_with fail
          refine ret_cell Tryz.results81 _ rfl _ _ _ hz9 _ (Tryz.underlying76) rfl (by kernel_rfl) rfl ?_
          exact ⟨⟨yo, (-1), yb, yc⟩, rfl, hR9.more (by omega), hG9⟩
        · have hl := cell_of_heap hl6 1
          have C7 := C6.cell 1 (4) ⟨yo, (4), yb, yc⟩ rfl
          go_upto_region 16 with fail
          refine wp_region_lit (fin_row _ _ _ _ rfl rfl rfl rfl _ _ _ _ _ _ C7.hx C7.hz rfl rfl rfl _ (Tryz.underlying76) rfl (by kernel_rfl) rfl (by simp [Value.oneCell']) ?_)
          have hz9 := heap_setRow_same (cs := #[.int .i64 yo, .int .i64 (4), .int .i64 yb, .int .i64 yc]) C7.hz
          have hgz := C7.hg
          have hBg := C7.hR.base
          have hR9 := C7.hR.off (grown_setRow w.heap.size #[.int .i64 yo, .int .i64 (4), .int .i64 yb, .int .i64 yc]) (fun k e => by cases e; exact ⟨by omega, by omega⟩)
          have hG9 := grown_then C7.hG (grown_setRow w.heap.size #[.int .i64 yo, .int .i64 (4), .int .i64 yb, .int .i64 yc]) (Nat.le_refl _)
          go_wp2_with fail
          refine ret_cell Tryz.results81 _ rfl _ _ _ hz9 _ (Tryz.underlying76) rfl (by kernel_rfl) rfl ?_
          exact ⟨⟨yo, (4), yb, yc⟩, rfl, hR9.more (by omega), hG9⟩
      · have hl4 := heap_alloc_new w4 (.cells #[.int .i64 (-1), .int .i64 (256)] 3)
        have C5 := C4.alloc (.cells #[.int .i64 (-1), .int .i64 (256)] 3)
        have hlg : w4.heap.size ≠ g := by have := C4.hR.lt; omega
        have hlc : w4.heap.size ≠ cb := by have := lt_of_block C4.hx; omega
        go_wp2_with fail
        refine (pick_i C5.hR (by omega) _ (by decide) (by decide)).mono ?_
        rintro e w6 ⟨v6, rfl, hv6, hR, hg, -, -⟩
        have C6 := C5.pick hR hg
        have hl6 := (hg.block _ (lt_of_block hl4) (fun e => hlg (Option.some.inj e))).trans hl4
        clear C4 C5 hR hg hl4
        have hc2 := cell_of_heap C6.hx 2
        have hf2 := free_of_heap C6.hx 2
        have h0n : v6 = 0 ∨ v6 = 1 := by omega
        rcases h0n with rfl | rfl
        · have hl := cell_of_heap hl6 0
          have C7 := C6.cell 2 (-1) ⟨yo, ya, (-1), yc⟩ rfl
          go_upto_region 16 with fail
          refine wp_region_lit (fin_row _ _ _ _ rfl rfl rfl rfl _ _ _ _ _ _ C7.hx C7.hz rfl rfl rfl _ (Tryz.underlying76) rfl (by kernel_rfl) rfl (by simp [Value.oneCell']) ?_)
          have hz9 := heap_setRow_same (cs := #[.int .i64 yo, .int .i64 ya, .int .i64 (-1), .int .i64 yc]) C7.hz
          have hgz := C7.hg
          have hBg := C7.hR.base
          have hR9 := C7.hR.off (grown_setRow w.heap.size #[.int .i64 yo, .int .i64 ya, .int .i64 (-1), .int .i64 yc]) (fun k e => by cases e; exact ⟨by omega, by omega⟩)
          have hG9 := grown_then C7.hG (grown_setRow w.heap.size #[.int .i64 yo, .int .i64 ya, .int .i64 (-1), .int .i64 yc]) (Nat.le_refl _)
          go_wp2_with fail
          refine ret_cell Tryz.results81 _ rfl _ _ _ hz9 _ (Tryz.underlying76) rfl (by kernel_rfl) rfl ?_
          exact ⟨⟨yo, ya, (-1), yc⟩, rfl, hR9.more (by omega), hG9⟩
        · have hl := cell_of_heap hl6 1
          have C7 := C6.cell 2 (256) ⟨yo, ya, (256), yc⟩ rfl
          go_upto_region 16 with fail
          refine wp_region_lit (fin_row _ _ _ _ rfl rfl rfl rfl _ _ _ _ _ _ C7.hx C7.hz rfl rfl rfl _ (Tryz.underlying76) rfl (by kernel_rfl) rfl (by simp [Value.oneCell']) ?_)
          have hz9 := heap_setRow_same (cs := #[.int .i64 yo, .int .i64 ya, .int .i64 (256), .int .i64 yc]) C7.hz
          have hgz := C7.hg
          have hBg := C7.hR.base
          have hR9 := C7.hR.off (grown_setRow w.heap.size #[.int .i64 yo, .int .i64 ya, .int .i64 (256), .int .i64 yc]) (fun k e => by cases e; exact ⟨by omega, by omega⟩)
          have hG9 := grown_then C7.hG (grown_setRow w.heap.size #[.int .i64 yo, .int .i64 ya, .int .i64 (256), .int .i64 yc]) (Nat.le_refl _)
          go_wp2_with fail
          refine ret_cell Tryz.results81 _ rfl _ _ _ hz9 _ (Tryz.underlying76) rfl (by kernel_rfl) rfl ?_
          exact ⟨⟨yo, ya, (256), yc⟩, rfl, hR9.more (by omega), hG9⟩
      · have hl4 := heap_alloc_new w4 (.cells #[.int .i64 (-1), .int .i64 (4), .int .i64 (1)] 3)
        have C5 := C4.alloc (.cells #[.int .i64 (-1), .int .i64 (4), .int .i64 (1)] 3)
        have hlg : w4.heap.size ≠ g := by have := C4.hR.lt; omega
        have hlc : w4.heap.size ≠ cb := by have := lt_of_block C4.hx; omega
        go_wp2_with fail
        refine (pick_i C5.hR (by omega) _ (by decide) (by decide)).mono ?_
        rintro e w6 ⟨v6, rfl, hv6, hR, hg, -, -⟩
        have C6 := C5.pick hR hg
        have hl6 := (hg.block _ (lt_of_block hl4) (fun e => hlg (Option.some.inj e))).trans hl4
        clear C4 C5 hR hg hl4
        have hc3 := cell_of_heap C6.hx 3
        have hf3 := free_of_heap C6.hx 3
        have h0n : v6 = 0 ∨ v6 = 1 ∨ v6 = 2 := by omega
        rcases h0n with rfl | rfl | rfl
        · have hl := cell_of_heap hl6 0
          have C7 := C6.cell 3 (-1) ⟨yo, ya, yb, (-1)⟩ rfl
          go_upto_region 16 with fail
          refine wp_region_lit (fin_row _ _ _ _ rfl rfl rfl rfl _ _ _ _ _ _ C7.hx C7.hz rfl rfl rfl _ (Tryz.underlying76) rfl (by kernel_rfl) rfl (by simp [Value.oneCell']) ?_)
          have hz9 := heap_setRow_same (cs := #[.int .i64 yo, .int .i64 ya, .int .i64 yb, .int .i64 (-1)]) C7.hz
          have hgz := C7.hg
          have hBg := C7.hR.base
          have hR9 := C7.hR.off (grown_setRow w.heap.size #[.int .i64 yo, .int .i64 ya, .int .i64 yb, .int .i64 (-1)]) (fun k e => by cases e; exact ⟨by omega, by omega⟩)
          have hG9 := grown_then C7.hG (grown_setRow w.heap.size #[.int .i64 yo, .int .i64 ya, .int .i64 yb, .int .i64 (-1)]) (Nat.le_refl _)
          go_wp2_with fail
          refine ret_cell Tryz.results81 _ rfl _ _ _ hz9 _ (Tryz.underlying76) rfl (by kernel_rfl) rfl ?_
          exact ⟨⟨yo, ya, yb, (-1)⟩, rfl, hR9.more (by omega), hG9⟩
        · have hl := cell_of_heap hl6 1
          have C7 := C6.cell 3 (4) ⟨yo, ya, yb, (4)⟩ rfl
          go_upto_region 16 with fail
          refine wp_region_lit (fin_row _ _ _ _ rfl rfl rfl rfl _ _ _ _ _ _ C7.hx C7.hz rfl rfl rfl _ (Tryz.underlying76) rfl (by kernel_rfl) rfl (by simp [Value.oneCell']) ?_)
          have hz9 := heap_setRow_same (cs := #[.int .i64 yo, .int .i64 ya, .int .i64 yb, .int .i64 (4)]) C7.hz
          have hgz := C7.hg
          have hBg := C7.hR.base
          have hR9 := C7.hR.off (grown_setRow w.heap.size #[.int .i64 yo, .int .i64 ya, .int .i64 yb, .int .i64 (4)]) (fun k e => by cases e; exact ⟨by omega, by omega⟩)
          have hG9 := grown_then C7.hG (grown_setRow w.heap.size #[.int .i64 yo, .int .i64 ya, .int .i64 yb, .int .i64 (4)]) (Nat.le_refl _)
          go_wp2_with fail
          refine ret_cell Tryz.results81 _ rfl _ _ _ hz9 _ (Tryz.underlying76) rfl (by kernel_rfl) rfl ?_
          exact ⟨⟨yo, ya, yb, (4)⟩, rfl, hR9.more (by omega), hG9⟩
        · have hl := cell_of_heap hl6 2
          have C7 := C6.cell 3 (1) ⟨yo, ya, yb, (1)⟩ rfl
          go_upto_region 16 with fail
          refine wp_region_lit (fin_row _ _ _ _ rfl rfl rfl rfl _ _ _ _ _ _ C7.hx C7.hz rfl rfl rfl _ (Tryz.underlying76) rfl (by kernel_rfl) rfl (by simp [Value.oneCell']) ?_)
          have hz9 := heap_setRow_same (cs := #[.int .i64 yo, .int .i64 ya, .int .i64 yb, .int .i64 (1)]) C7.hz
          have hgz := C7.hg
          have hBg := C7.hR.base
          have hR9 := C7.hR.off (grown_setRow w.heap.size #[.int .i64 yo, .int .i64 ya, .int .i64 yb, .int .i64 (1)]) (fun k e => by cases e; exact ⟨by omega, by omega⟩)
          have hG9 := grown_then C7.hG (grown_setRow w.heap.size #[.int .i64 yo, .int .i64 ya, .int .i64 yb, .int .i64 (1)]) (Nat.le_refl _)
          go_wp2_with fail
          refine ret_cell Tryz.results81 _ rfl _ _ _ hz9 _ (Tryz.underlying76) rfl (by kernel_rfl) rfl ?_
          exact ⟨⟨yo, ya, yb, (1)⟩, rfl, hR9.more (by omega), hG9⟩


theorem cdsCells_set : ∀ (l : List Cd) (k : Nat) (y : Cd), cdsCells (l.set k y) = ((((cdsCells l).set (k * 4) (.int .i64 y.op)).set (k * 4 + 1) (.int .i64 y.a)).set (k * 4 + 2) (.int .i64 y.b)).set (k * 4 + 3) (.int .i64 y.c)
  | [], k, y => by simp [cdsCells]
  | x :: l, 0, y => by simp [cdsCells, cdCells]
  | x :: l, k + 1, y => by
    have e : ∀ l : List Cd, ∀ z : Cd, cdsCells (z :: l) = [.int .i64 z.op, .int .i64 z.a, .int .i64 z.b, .int .i64 z.c] ++ cdsCells l := fun l z => rfl
    rw [List.set_cons_succ, e, cdsCells_set l k y, e, show (k + 1) * 4 = k * 4 + 4 by omega]
    simp
theorem DSx.setAt {w0 w : World} {B g K gb n c : Nat} (D : DSx w0 B g K (some ⟨gb, 0, none⟩) n c w) (k : Nat) (y : Cd) : DSx w0 B g K (some ⟨gb, 0, none⟩) n c (w.setCells gb (k * 4) [.int .i64 y.op, .int .i64 y.a, .int .i64 y.b, .int .i64 y.c]) := by
  obtain ⟨l, h1, h2, h3, h4⟩ := D
  have hb := (OR.base_le h1).1
  have hBg := h2.base
  have st : ∀ (w : World) (j : Nat) (v : Value), RdS w B g K → w0.grownBy w (some g) → RdS (w.setCell ⟨gb, j, none⟩ v) B g K ∧ w0.grownBy (w.setCell ⟨gb, j, none⟩ v) (some g) := fun w j v hR hG =>
    ⟨hR.off (grown_cell1 w gb j v) (fun k e => by cases e; exact ⟨by omega, by omega⟩), grown_then hG (grown_cell1 w gb j v) (by omega)⟩
  have a1 := (OR.at0 h1).2.2 (k * 4) (.int .i64 y.op)
  have a2 := (OR.at0 a1).2.2 (k * 4 + 1) (.int .i64 y.a)
  have a3 := (OR.at0 a2).2.2 (k * 4 + 2) (.int .i64 y.b)
  have a4 := (OR.at0 a3).2.2 (k * 4 + 3) (.int .i64 y.c)
  obtain ⟨r1, g1⟩ := st _ (k * 4) (.int .i64 y.op) h2 h3
  obtain ⟨r2, g2⟩ := st _ (k * 4 + 1) (.int .i64 y.a) r1 g1
  obtain ⟨r3, g3⟩ := st _ (k * 4 + 2) (.int .i64 y.b) r2 g2
  obtain ⟨r4, g4⟩ := st _ (k * 4 + 3) (.int .i64 y.c) r3 g3
  refine ⟨l.set k y, ?_, r4, g4, h4⟩
  unfold OC
  rw [cdsCells_set]
  exact a4
theorem DSx.there {w0 w : World} {B g K gb n c : Nat} (D : DSx w0 B g K (some ⟨gb, 0, none⟩) n c w) (k : Nat) (hk : k < n) : w.there gb (k * 4) 4 := by
  obtain ⟨l, h1, h2, h3, h4⟩ := D
  intro j hj
  obtain ⟨u, hu⟩ := OR.some_cell h1 (k * 4 + j) (by omega)
  exact ⟨by rw [hu]; rfl, (OR.at0 h1).2.1 _⟩
theorem DSx.addr {w0 w : World} {B g K n c : Nat} {A : Option Addr} (D : DSx w0 B g K A n c w) (hn : 0 < n) : ∃ gb, A = some ⟨gb, 0, none⟩ := by
  obtain ⟨l, h1, -⟩ := D
  obtain ⟨gb, h, -⟩ := OR.at_ h1 hn
  exact ⟨gb, h⟩

abbrev lit8 : Array Value := #[.int .i64 11, .int .i64 0, .int .i64 0, .int .i64 0, .int .i64 11, .int .i64 0, .int .i64 0, .int .i64 0, .int .i64 11, .int .i64 0, .int .i64 0, .int .i64 0, .int .i64 11, .int .i64 0, .int .i64 0, .int .i64 0, .int .i64 14, .int .i64 0, .int .i64 0, .int .i64 0, .int .i64 14, .int .i64 0, .int .i64 0, .int .i64 0, .int .i64 14, .int .i64 0, .int .i64 0, .int .i64 0, .int .i64 14, .int .i64 0, .int .i64 0, .int .i64 0]
theorem DSx.lit8 {w0 w : World} {B g K n c : Nat} {A : Option Addr} (D : DSx w0 B g K A n c w) : DSx w0 B g K (some ⟨w.heap.size, 0, none⟩) 8 8 (w.alloc (.cells lit8 76)) := by
  have hs := D.size
  obtain ⟨l, h1, h2, h3, h4⟩ := D
  have := OR.lit w w0.heap.size 76 4 8 Go.Proofs.YtelbfeidpcojmaaGreat.lit8 hs (by omega) rfl
  exact ⟨[⟨11, 0, 0, 0⟩, ⟨11, 0, 0, 0⟩, ⟨11, 0, 0, 0⟩, ⟨11, 0, 0, 0⟩, ⟨14, 0, 0, 0⟩, ⟨14, 0, 0, 0⟩, ⟨14, 0, 0, 0⟩, ⟨14, 0, 0, 0⟩], this, h2.alloc _, h3.trans (World.grownBy_alloc _ _ _), h4⟩
theorem block3_c {w : World} {B g K : Nat} (room : Int) (h : RdS w B g K) (hK : K ≤ 70000000) (hr1 : -1000000 ≤ room) (hr2 : room ≤ 1000000) :
    Calls Tryz.prog 80 #[.pointer (some ⟨g, 0, none⟩), .int .i64 room, .int .i64 3] w (DBlkPost w B g K 30 73) :=
  block_step (KB := 70000000) (KR := 90000000) (by decide) (by decide) (LN := 0) (PN := 0) (by decide) (by decide) 3 (by decide) (fun h => absurd h (by decide)) room h hK hr1 hr2
theorem block2_c {w : World} {B g K : Nat} (room : Int) (h : RdS w B g K) (hK : K ≤ 50000000) (hr1 : -1000000 ≤ room) (hr2 : room ≤ 1000000) :
    Calls Tryz.prog 80 #[.pointer (some ⟨g, 0, none⟩), .int .i64 room, .int .i64 2] w (DBlkPost w B g K 390 949) :=
  block_step (KB := 50000000) (KR := 70000000) (by decide) (by decide) (LN := 30) (PN := 73) (by decide) (by decide) 2 (by decide) (fun _ w B g K room h hK h1 h2 => block3_c room h hK h1 h2) room h hK hr1 hr2
theorem block1_c {w : World} {B g K : Nat} (room : Int) (h : RdS w B g K) (hK : K ≤ 30000000) (hr1 : -1000000 ≤ room) (hr2 : room ≤ 1000000) :
    Calls Tryz.prog 80 #[.pointer (some ⟨g, 0, none⟩), .int .i64 room, .int .i64 1] w (DBlkPost w B g K 4710 11461) :=
  block_step (KB := 30000000) (KR := 50000000) (by decide) (by decide) (LN := 390) (PN := 949) (by decide) (by decide) 1 (by decide) (fun _ w B g K room h hK h1 h2 => block2_c room h hK h1 h2) room h hK hr1 hr2
theorem block0_c {w : World} {B g K : Nat} (room : Int) (h : RdS w B g K) (hK : K ≤ 10000000) (hr1 : -1000000 ≤ room) (hr2 : room ≤ 1000000) :
    Calls Tryz.prog 80 #[.pointer (some ⟨g, 0, none⟩), .int .i64 room, .int .i64 0] w (DBlkPost w B g K 56550 137605) :=
  block_step (KB := 10000000) (KR := 30000000) (by decide) (by decide) (LN := 4710) (PN := 11461) (by decide) (by decide) 0 (by decide) (fun _ w B g K room h hK h1 h2 => block1_c room h hK h1 h2) room h hK hr1 hr2

def PRel (w0 : World) (B g K : Nat) (ov kv : Value) (wr : World) : Prop :=
  ∃ (t j : Nat) (A : Option Addr) (n c : Nat), j + t ≤ 3 ∧ kv = .int .i64 j ∧ ov = .slice A n c ∧ n ≤ 3 + t * 56550 ∧ DSx w0 B g (K + 5 + t * 137605) A n c wr
def lenOf : Value → Nat
  | .slice _ n _ => n
  | _ => 0
def DefRel (w0 : World) (B g K n0 : Nat) (ov : Value) (wr : World) : Prop :=
  ∃ (t n : Nat) (A : Option Addr) (c : Nat), ov = .slice A n c ∧ (n0 + t ≤ n ∧ n ≤ n0 + t) ∧ (t = 0 ∨ n ≤ 41) ∧ DSx w0 B g (K + 8 * t) A n c wr

set_option maxRecDepth 100000 in
set_option maxHeartbeats 8000000 in
theorem l20Program_c {w : World} {B g K : Nat} (h : RdS w B g K) (hK : K ≤ 1000000) (m : Nat) (hm : m ≤ 1000) :
    Calls Tryz.prog 46 #[.pointer (some ⟨g, 0, none⟩), .int .i64 m] w (DBlkPost w B g K 200000 500000) := by
  have hgw := h.lt
  have D0 := DSx.start h
  go_enter Tryz.func46, Tryz.ntmps46
  go_upto_region 2 with fail
  go_cut [5, 10] from 8 (fun s5 s10 wx => ∃ (A : Option Addr) (n c v : Nat), s5 = .slice A n c ∧ n ≤ 0 ∧ s10 = .int .i64 v ∧ v < 4 ∧ DSx w B g (K + 1) A n c wx)
  case first =>
    go_wp2_with fail
    refine (pick_i D0.rd (by omega) _ (by decide) (by decide)).mono ?_
    rintro e w1 ⟨v, rfl, hv, hR, hg, hs1, -⟩
    have D1 := D0.pick hR hg
    go_wp2_with fail
    go_meet
    exact ⟨_, _, _, v, rfl, by omega, rfl, by omega, D1⟩
  obtain ⟨A0, n0, c0, v, rfl, hn0, rfl, hv, D1⟩ := hcut
  clear h D0
  go_upto_block 0 with fail
  go_cut [5] from 8 (fun s5 wx => ∃ (A : Option Addr) (n c : Nat), s5 = .slice A n c ∧ n ≤ 3 ∧ DSx w B g (K + 4) A n c wx)
  case first =>
    have hcase : v = 0 ∨ v = 1 ∨ v = 2 ∨ v = 3 := by omega
    rcases hcase with rfl | rfl | rfl | rfl
    · go_wp2_with (at_builtin; refine app_lit D1 rfl _ _ rfl rfl _ _ 2 _ [⟨2, 0, 0, 0⟩, ⟨5, 1, 0, 0⟩] rfl rfl rfl (by omega) ?_)
      intro A2 c2 w2 D2
      go_wp2_with fail
      go_meet
      exact ⟨_, _, _, rfl, by omega, D2.more (by omega)⟩
    · go_wp2_with (at_builtin; refine app_lit D1 rfl _ _ rfl rfl _ _ 3 _ [⟨2, 3, 0, 0⟩, ⟨8, 0, 3, 0⟩, ⟨9, 0, 3, 0⟩] rfl rfl rfl (by omega) ?_)
      intro A2 c2 w2 D2
      go_wp2_with fail
      go_meet
      exact ⟨_, _, _, rfl, by omega, D2.more (by omega)⟩
    · go_wp2_with fail
      refine (pick_i D1.rd (by omega) _ (by decide) (by decide)).mono ?_
      rintro e w2 ⟨v2, rfl, hv2, hR, hg, -, -⟩
      have D2 := D1.pick hR hg
      clear D1 hR hg
      go_wp2_with fail
      refine (pick_i D2.rd (by omega) _ (by decide) (by decide)).mono ?_
      rintro e w3 ⟨v3, rfl, hv3, hR, hg, -, -⟩
      have D3 := D2.pick hR hg
      clear D2 hR hg
      have hw1 : IntKind.i64.wrap (1 + (v3 : Int)) = 1 + (v3 : Int) := IntWalk.i64_in _ (by omega)
      go_wp2_with (at_builtin; refine app_lit D3 rfl _ _ rfl rfl _ _ 1 _ [⟨1, (v2 : Int), 1 + (v3 : Int), 0⟩] rfl rfl rfl (by omega) ?_)
      intro A4 c4 w4 D4
      go_wp2_with fail
      go_meet
      exact ⟨_, _, _, rfl, by omega, D4.more (by omega)⟩
    · go_wp2_with fail
      go_meet
      exact ⟨_, _, _, rfl, by omega, D1.more (by omega)⟩
  case rest =>
    obtain ⟨A, n, c, rfl, hn, D⟩ := hcut
    clear D1
    go_wp2_with fail
    refine (pick_i D.rd (by omega) _ (by decide) (by decide)).mono ?_
    rintro e w2 ⟨v2, rfl, hv2, hR, hg, -, -⟩
    have D2 := D.pick hR hg
    clear D hR hg
    go_upto_block 1 with fail
    go_cut [5, 6] from 8 (fun s5 s6 wx => ∃ (A : Option Addr) (n c : Nat), s5 = .slice A n c ∧ n ≤ 169653 ∧ DSx w B g (K + 412820) A n c wx)
    case first =>
      go_wp2_with fail
      go_loopw [5, 6] (fun ov kv wr => PRel w B g K ov kv wr) (fun _ kv _ => (intOf kv).toNat)
      case atStart => exact ⟨0, v2 + 1, A, n, c, by omega, by go_num, rfl, by omega, by simpa using D2⟩
      case round =>
        clear D2
        obtain ⟨t, j, A3, n3, c3, hjt, rfl, rfl, hn3, D3⟩ := hrel
        by_cases hj : 0 < j
        · go_wp2_with fail
          refine (block0_c _ D3.rd (by omega) (by omega) (by omega)).mono ?_
          rintro e w4 ⟨A4, n4, c4, rfl, hn4, E4⟩
          have D4 := D3.inner E4
          obtain ⟨l4, hl4, rl4, nl4⟩ := E4.reads
          clear D3 E4
          go_wp2_with (at_builtin; refine app_ds D4 rfl _ _ rfl rfl _ _ _ l4 rfl hl4 nl4 rl4 (by omega) ?_)
          intro A5 c5 w5 D5
          clear D4 rl4
          by_cases h34 : (34 : Int) < ((n3 + n4 : Nat) : Int)
          · go_wp2
            go_meet
            exact ⟨_, _, _, rfl, by omega, D5.more (by omega)⟩
          · go_wp2
            go_roundw
            case rel => exact ⟨t + 1, j - 1, _, _, _, by omega, by go_num, rfl, by omega, D5.more (by omega)⟩
            case measure => (simp [intOf] <;> omega)
        · obtain rfl : j = 0 := by omega
          go_wp2
          go_meet
          exact ⟨_, _, _, rfl, by omega, D3.more (by omega)⟩
    case rest =>
      obtain ⟨A4, n4, c4, rfl, hn4, D4⟩ := hcut
      clear D2
      go_wp2_with fail
      refine (odd_c D4.rd (by omega) 3 (by omega)).mono ?_
      rintro e w5 ⟨b, rfl, -, hR, hg, -⟩
      have D5 := D4.pick hR hg
      clear D4 hR hg
      cases b with
      | false =>
        by_cases hn0 : n4 = 0
        · subst hn0
          go_wp2
          go_ret
          exact ⟨_, _, _, rfl, by omega, D5.more (by omega)⟩
        · have hn0b : decide (((n4 : Nat) : Int) > 0) = true := decide_eq_true (by omega)
          go_wp2_with fail
          refine (odd_c D5.rd (by omega) m (by omega)).mono ?_
          rintro e w21 ⟨b21, rfl, -, hR, hg, -⟩
          have D21 := D5.pick hR hg
          clear D5 hR hg
          cases b21 with
          | false =>
            go_wp2
            go_ret
            exact ⟨_, _, _, rfl, by omega, D21.more (by omega)⟩
          | true =>
            go_wp2_with fail
            refine (pick_i D21.rd (by omega) _ (by omega) (by omega)).mono ?_
            rintro e w22 ⟨v22, rfl, hv22, hR, hg, -, -⟩
            have D22 := D21.pick hR hg
            clear D21 hR hg
            go_wp2_with fail
            refine (pick_i D22.rd (by omega) _ (by decide) (by decide)).mono ?_
            rintro e w23 ⟨v23, rfl, hv23, hR, hg, -, -⟩
            have D23 := D22.pick hR hg
            clear D22 hR hg
            have hc5 : v23 = 0 ∨ v23 = 1 ∨ v23 = 2 ∨ v23 = 3 ∨ v23 = 4 := by omega
            rcases hc5 with rfl | rfl | rfl | rfl | rfl
            · obtain ⟨gb, rfl⟩ := D23.addr (by omega)
              have hkI : (v22 : Int) < ((n4 : Nat) : Int) := by omega
              go_wp2_with fail
              refine (l20Code_c D23.rd (by omega) 1 (by omega)).mono ?_
              rintro e w24 ⟨⟨xo, xa, xb, xc⟩, rfl, hR, hg⟩
              dsimp only [Cd.val]
              have D24 := D23.pick hR hg
              have hth := D24.there v22 (by omega)
              have D9 := D24.setAt v22 ⟨xo, xa, xb, xc⟩
              rename_i K1 hK1
              try simp only []
              refine hK1 _ _ (wpList_step (fun K2 hK2 => ?_))
              go_simp
              refine hK2 _ _ (wpList_store_mid rfl _ _ _ rfl _ _ _ rfl rfl hth (by kernel_rfl) (by simp [Value.oneCell']) (wpList_nil ?_))
              go_wp2
              go_ret
              exact ⟨_, _, _, rfl, by omega, D9.more (by omega)⟩
            · skip
              go_wp2_with (at_builtin; refine app_lit D23 rfl _ _ rfl rfl _ _ 1 _ [⟨14, 0, 0, 0⟩] rfl rfl rfl (by omega) ?_)
              intro A25 c25 w25 D25
              go_wp2
              go_ret
              exact ⟨_, _, _, rfl, by omega, D25.more (by omega)⟩
            · skip
              go_wp2_with (at_builtin; refine app_lit D23 rfl _ _ rfl rfl _ _ 1 _ [⟨12, 0, 0, 0⟩] rfl rfl rfl (by omega) ?_)
              intro A26 c26 w26 D26
              go_wp2
              go_ret
              exact ⟨_, _, _, rfl, by omega, D26.more (by omega)⟩
            · obtain ⟨l6, hl6, rl6, nl6⟩ := (D23.alloc (.cells lit8 76)).reads
              have D6 := D23.lit8
              have hs6 := D23.size
              go_wp2_with (at_builtin; refine app_ds D6 rfl _ _ rfl rfl _ _ _ l6 rfl hl6 nl6 rl6 (by omega) ?_)
              intro A7 c7 w7 D7
              go_wp2
              go_ret
              exact ⟨_, _, _, rfl, by omega, D7.more (by omega)⟩
            · go_wp2_with fail
              go_loopw [5] (fun ov wr => DefRel w B g (K + 412830) n4 ov wr) (fun ov _ => 41 - lenOf ov)
              case atStart => exact ⟨0, _, _, _, rfl, by omega, .inl rfl, D23.more (by omega)⟩
              case round =>
                clear D23
                obtain ⟨t, n8, A8, c8, rfl, hn8, ht8, D8⟩ := hrel
                by_cases h40 : (n8 : Int) ≤ 40
                · go_wp2_with fail
                  refine (l20Plain_c D8.rd (by omega)).mono ?_
                  rintro e w9 ⟨⟨xo, xa, xb, xc⟩, rfl, hR, hg⟩
                  dsimp only [Cd.val]
                  have D9 := D8.pick hR hg
                  go_wp2_with (at_builtin; refine app_lit D9 rfl _ _ rfl rfl _ _ 1 _ [⟨xo, xa, xb, xc⟩] rfl rfl rfl (by omega) ?_)
                  intro A10 c10 w10 D10
                  clear D8 D9
                  go_wp2
                  go_roundw
                  case rel => exact ⟨t + 1, _, _, _, rfl, by omega, .inr (by omega), D10.more (by omega)⟩
                  case measure => (simp [lenOf] <;> omega)
                · go_wp2
                  go_ret
                  exact ⟨_, _, _, rfl, by omega, D8.more (by omega)⟩
      | true =>
        by_cases h37 : (n4 : Int) < 37
        · go_wp2_with fail
          refine (pick_i D5.rd (by omega) _ (by decide) (by decide)).mono ?_
          rintro e w6 ⟨v6, rfl, hv6, hR, hg, -, -⟩
          have D6 := D5.pick hR hg
          clear D5 hR hg
          go_wp2_with (at_builtin; refine app_lit D6 rfl _ _ rfl rfl _ _ 2 _ [⟨2, 2, 0, 0⟩, ⟨9, (v6 : Int), 2, 0⟩] rfl rfl rfl (by omega) ?_)
          intro A7 c7 w7 D7
          clear D6
          generalize hn7 : n4 + 2 = n7 at *
          have hn0 : ¬ n7 = 0 := by omega
          · have hn0b : decide (((n7 : Nat) : Int) > 0) = true := decide_eq_true (by omega)
            go_wp2_with fail
            refine (odd_c D7.rd (by omega) m (by omega)).mono ?_
            rintro e w28 ⟨b28, rfl, -, hR, hg, -⟩
            have D28 := D7.pick hR hg
            clear D7 hR hg
            cases b28 with
            | false =>
              go_wp2
              go_ret
              exact ⟨_, _, _, rfl, by omega, D28.more (by omega)⟩
            | true =>
              go_wp2_with fail
              refine (pick_i D28.rd (by omega) _ (by omega) (by omega)).mono ?_
              rintro e w29 ⟨v29, rfl, hv29, hR, hg, -, -⟩
              have D29 := D28.pick hR hg
              clear D28 hR hg
              go_wp2_with fail
              refine (pick_i D29.rd (by omega) _ (by decide) (by decide)).mono ?_
              rintro e w30 ⟨v30, rfl, hv30, hR, hg, -, -⟩
              have D30 := D29.pick hR hg
              clear D29 hR hg
              have hc5 : v30 = 0 ∨ v30 = 1 ∨ v30 = 2 ∨ v30 = 3 ∨ v30 = 4 := by omega
              rcases hc5 with rfl | rfl | rfl | rfl | rfl
              · obtain ⟨gb, rfl⟩ := D30.addr (by omega)
                have hkI : (v29 : Int) < ((n7 : Nat) : Int) := by omega
                go_wp2_with fail
                refine (l20Code_c D30.rd (by omega) 1 (by omega)).mono ?_
                rintro e w31 ⟨⟨xo, xa, xb, xc⟩, rfl, hR, hg⟩
                dsimp only [Cd.val]
                have D31 := D30.pick hR hg
                have hth := D31.there v29 (by omega)
                have D9 := D31.setAt v29 ⟨xo, xa, xb, xc⟩
                rename_i K1 hK1
                try simp only []
                refine hK1 _ _ (wpList_step (fun K2 hK2 => ?_))
                go_simp
                refine hK2 _ _ (wpList_store_mid rfl _ _ _ rfl _ _ _ rfl rfl hth (by kernel_rfl) (by simp [Value.oneCell']) (wpList_nil ?_))
                go_wp2
                go_ret
                exact ⟨_, _, _, rfl, by omega, D9.more (by omega)⟩
              · skip
                go_wp2_with (at_builtin; refine app_lit D30 rfl _ _ rfl rfl _ _ 1 _ [⟨14, 0, 0, 0⟩] rfl rfl rfl (by omega) ?_)
                intro A32 c32 w32 D32
                go_wp2
                go_ret
                exact ⟨_, _, _, rfl, by omega, D32.more (by omega)⟩
              · skip
                go_wp2_with (at_builtin; refine app_lit D30 rfl _ _ rfl rfl _ _ 1 _ [⟨12, 0, 0, 0⟩] rfl rfl rfl (by omega) ?_)
                intro A33 c33 w33 D33
                go_wp2
                go_ret
                exact ⟨_, _, _, rfl, by omega, D33.more (by omega)⟩
              · obtain ⟨l6, hl6, rl6, nl6⟩ := (D30.alloc (.cells lit8 76)).reads
                have D6 := D30.lit8
                have hs6 := D30.size
                go_wp2_with (at_builtin; refine app_ds D6 rfl _ _ rfl rfl _ _ _ l6 rfl hl6 nl6 rl6 (by omega) ?_)
                intro A7 c7 w7 D7
                go_wp2
                go_ret
                exact ⟨_, _, _, rfl, by omega, D7.more (by omega)⟩
              · go_wp2_with fail
                go_loopw [5] (fun ov wr => DefRel w B g (K + 412830) n7 ov wr) (fun ov _ => 41 - lenOf ov)
                case atStart => exact ⟨0, _, _, _, rfl, by omega, .inl rfl, D30.more (by omega)⟩
                case round =>
                  clear D30
                  obtain ⟨t, n8, A8, c8, rfl, hn8, ht8, D8⟩ := hrel
                  by_cases h40 : (n8 : Int) ≤ 40
                  · go_wp2_with fail
                    refine (l20Plain_c D8.rd (by omega)).mono ?_
                    rintro e w9 ⟨⟨xo, xa, xb, xc⟩, rfl, hR, hg⟩
                    dsimp only [Cd.val]
                    have D9 := D8.pick hR hg
                    go_wp2_with (at_builtin; refine app_lit D9 rfl _ _ rfl rfl _ _ 1 _ [⟨xo, xa, xb, xc⟩] rfl rfl rfl (by omega) ?_)
                    intro A10 c10 w10 D10
                    clear D8 D9
                    go_wp2
                    go_roundw
                    case rel => exact ⟨t + 1, _, _, _, rfl, by omega, .inr (by omega), D10.more (by omega)⟩
                    case measure => (simp [lenOf] <;> omega)
                  · go_wp2
                    go_ret
                    exact ⟨_, _, _, rfl, by omega, D8.more (by omega)⟩
        · skip
          have hn0 : ¬ n4 = 0 := by omega
          · have hn0b : decide (((n4 : Nat) : Int) > 0) = true := decide_eq_true (by omega)
            go_wp2_with fail
            refine (odd_c D5.rd (by omega) m (by omega)).mono ?_
            rintro e w35 ⟨b35, rfl, -, hR, hg, -⟩
            have D35 := D5.pick hR hg
            clear D5 hR hg
            cases b35 with
            | false =>
              go_wp2
              go_ret
              exact ⟨_, _, _, rfl, by omega, D35.more (by omega)⟩
            | true =>
              go_wp2_with fail
              refine (pick_i D35.rd (by omega) _ (by omega) (by omega)).mono ?_
              rintro e w36 ⟨v36, rfl, hv36, hR, hg, -, -⟩
              have D36 := D35.pick hR hg
              clear D35 hR hg
              go_wp2_with fail
              refine (pick_i D36.rd (by omega) _ (by decide) (by decide)).mono ?_
              rintro e w37 ⟨v37, rfl, hv37, hR, hg, -, -⟩
              have D37 := D36.pick hR hg
              clear D36 hR hg
              have hc5 : v37 = 0 ∨ v37 = 1 ∨ v37 = 2 ∨ v37 = 3 ∨ v37 = 4 := by omega
              rcases hc5 with rfl | rfl | rfl | rfl | rfl
              · obtain ⟨gb, rfl⟩ := D37.addr (by omega)
                have hkI : (v36 : Int) < ((n4 : Nat) : Int) := by omega
                go_wp2_with fail
                refine (l20Code_c D37.rd (by omega) 1 (by omega)).mono ?_
                rintro e w38 ⟨⟨xo, xa, xb, xc⟩, rfl, hR, hg⟩
                dsimp only [Cd.val]
                have D38 := D37.pick hR hg
                have hth := D38.there v36 (by omega)
                have D9 := D38.setAt v36 ⟨xo, xa, xb, xc⟩
                rename_i K1 hK1
                try simp only []
                refine hK1 _ _ (wpList_step (fun K2 hK2 => ?_))
                go_simp
                refine hK2 _ _ (wpList_store_mid rfl _ _ _ rfl _ _ _ rfl rfl hth (by kernel_rfl) (by simp [Value.oneCell']) (wpList_nil ?_))
                go_wp2
                go_ret
                exact ⟨_, _, _, rfl, by omega, D9.more (by omega)⟩
              · skip
                go_wp2_with (at_builtin; refine app_lit D37 rfl _ _ rfl rfl _ _ 1 _ [⟨14, 0, 0, 0⟩] rfl rfl rfl (by omega) ?_)
                intro A39 c39 w39 D39
                go_wp2
                go_ret
                exact ⟨_, _, _, rfl, by omega, D39.more (by omega)⟩
              · skip
                go_wp2_with (at_builtin; refine app_lit D37 rfl _ _ rfl rfl _ _ 1 _ [⟨12, 0, 0, 0⟩] rfl rfl rfl (by omega) ?_)
                intro A40 c40 w40 D40
                go_wp2
                go_ret
                exact ⟨_, _, _, rfl, by omega, D40.more (by omega)⟩
              · obtain ⟨l6, hl6, rl6, nl6⟩ := (D37.alloc (.cells lit8 76)).reads
                have D6 := D37.lit8
                have hs6 := D37.size
                go_wp2_with (at_builtin; refine app_ds D6 rfl _ _ rfl rfl _ _ _ l6 rfl hl6 nl6 rl6 (by omega) ?_)
                intro A7 c7 w7 D7
                go_wp2
                go_ret
                exact ⟨_, _, _, rfl, by omega, D7.more (by omega)⟩
              · go_wp2_with fail
                go_loopw [5] (fun ov wr => DefRel w B g (K + 412830) n4 ov wr) (fun ov _ => 41 - lenOf ov)
                case atStart => exact ⟨0, _, _, _, rfl, by omega, .inl rfl, D37.more (by omega)⟩
                case round =>
                  clear D37
                  obtain ⟨t, n8, A8, c8, rfl, hn8, ht8, D8⟩ := hrel
                  by_cases h40 : (n8 : Int) ≤ 40
                  · go_wp2_with fail
                    refine (l20Plain_c D8.rd (by omega)).mono ?_
                    rintro e w9 ⟨⟨xo, xa, xb, xc⟩, rfl, hR, hg⟩
                    dsimp only [Cd.val]
                    have D9 := D8.pick hR hg
                    go_wp2_with (at_builtin; refine app_lit D9 rfl _ _ rfl rfl _ _ 1 _ [⟨xo, xa, xb, xc⟩] rfl rfl rfl (by omega) ?_)
                    intro A10 c10 w10 D10
                    clear D8 D9
                    go_wp2
                    go_roundw
                    case rel => exact ⟨t + 1, _, _, _, rfl, by omega, .inr (by omega), D10.more (by omega)⟩
                    case measure => (simp [lenOf] <;> omega)
                  · go_wp2
                    go_ret
                    exact ⟨_, _, _, rfl, by omega, D8.more (by omega)⟩


theorem iMaskAll2_c (n : Int) (w : World) :
    Calls Tryz.prog 39 #[.int .i64 n] w fun e w' => e = .returned (.int .i64 (maskAllI n)) ∧ w = w' := by
  cases h : inR n 1 8 with
  | false =>
    go_enter Tryz.func39, Tryz.ntmps39
    go_wp2_with (go_at_call 49; refine (isLanes_c _ _).mono ?_; rintro e w' ⟨rfl, rfl⟩)
    go_ret
    exact ⟨reti (by simp [maskAllI, h]), rfl⟩
  | true =>
    have h' := inR_iff.1 h
    have h8 : n = 1 ∨ n = 2 ∨ n = 3 ∨ n = 4 ∨ n = 5 ∨ n = 6 ∨ n = 7 ∨ n = 8 := by omega
    clear h h'
    rcases h8 with rfl | rfl | rfl | rfl | rfl | rfl | rfl | rfl
    all_goals
      go_enter Tryz.func39, Tryz.ntmps39
      go_wp2_with (go_at_call 49; refine (isLanes_c _ _).mono ?_; rintro e w' ⟨rfl, rfl⟩)
      go_ret
      exact ⟨reti (by decide), rfl⟩
theorem alive_c (w : World) : Calls Tryz.prog 11 #[] w fun e w' => e = .returned (.bool true) ∧ w = w' := by
  have h7 : maskAllI 3 = 7 := by decide
  go_enter Tryz.func11, Tryz.ntmps11
  go_wp2_with (go_at_call 39; refine (iMaskAll2_c _ _).mono ?_; rintro e w' ⟨rfl, rfl⟩)
  go_ret
  exact ⟨rfl, rfl⟩


/-- A drawn program is returned. -/
def DrawnP (w : World) (e : Ending) (w' : World) : Prop := ∃ (l : List Cd) (A : Option Addr) (c : Nat), e = .returned (.slice A l.length c) ∧ l.length ≤ 200000 ∧ OC w' w.heap.size A l.length c l ∧ Below w.heap.size w w'
theorem DrawnP.of {w w1 w' : World} {B g K n c : Nat} {A : Option Addr} (h : DSx w1 B g K A n c w') (hB : Below w.heap.size w w1) (hg : w.heap.size ≤ g) (hn : n ≤ 200000) : DrawnP w (.returned (.slice A n c)) w' := by
  obtain ⟨l, h1, h2, h3, h4⟩ := h
  obtain rfl := OC.len h1
  exact ⟨l, A, c, rfl, hn, OR.mono h1 hB.size, hB.grown h3 hB.size (fun k e => by cases e; exact hg)⟩


/-- An own row of numbers that is being drawn. -/
def DIx (w0 : World) (B g K : Nat) (A : Option Addr) (n c : Nat) (w : World) : Prop :=
  ∃ l : List Int, OI w w0.heap.size A n c l ∧ RdS w B g K ∧ w0.grownBy w (some g) ∧ g < w0.heap.size

section
variable {w0 w w' : World} {B g K n c : Nat} {A : Option Addr}
theorem DIx.rd (h : DIx w0 B g K A n c w) : RdS w B g K := by
  obtain ⟨l, -, h, -⟩ := h
  exact h
theorem DIx.gr (h : DIx w0 B g K A n c w) : w0.grownBy w (some g) := by
  obtain ⟨l, -, -, h, -⟩ := h
  exact h
theorem DIx.pick (h : DIx w0 B g K A n c w) {K' : Nat} (hR : RdS w' B g K') (hg : w.grownBy w' (some g)) : DIx w0 B g K' A n c w' := by
  obtain ⟨l, h1, h2, h3, h4⟩ := h
  refine ⟨l, OR.kept h1 hg ?_, hR, h3.trans hg, h4⟩
  cases hb : Value.ownBlock (.slice A n c) with
  | none => exact .inl rfl
  | some k => exact .inr (fun e => by have := (OR.block h1 k hb).1; have := Option.some.inj e; omega)
theorem DIx.alloc (h : DIx w0 B g K A n c w) (o : Obj) : DIx w0 B g K A n c (w.alloc o) := by
  obtain ⟨l, h1, h2, h3, h4⟩ := h
  exact ⟨l, OR.alloc h1 o, h2.alloc o, h3.trans (World.grownBy_alloc _ _ _), h4⟩
theorem DIx.more (h : DIx w0 B g K A n c w) {K' : Nat} (hK : K ≤ K') : DIx w0 B g K' A n c w := by
  obtain ⟨l, h1, h2, h3, h4⟩ := h
  exact ⟨l, h1, h2.more hK, h3, h4⟩
theorem DIx.start (h : RdS w B g K) : DIx w B g K (some ⟨w.heap.size, 0, none⟩) 0 0 (w.alloc (.cells #[] 3)) :=
  ⟨[], OI.empty_ w _ (Nat.le_refl _), h.alloc _, World.grownBy_alloc _ _ _, h.lt⟩
theorem DIx.fresh (h : DIx w0 B g K A n c w) : DIx w0 B g K (some ⟨w.heap.size, 0, none⟩) 0 0 (w.alloc (.cells #[] 3)) := by
  obtain ⟨l, h1, h2, h3, h4⟩ := h
  exact ⟨[], OI.empty_ w _ h3.size, h2.alloc _, h3.trans (World.grownBy_alloc _ _ _), h4⟩
theorem zero_ints (m : Nat) : (zeroRow (.int .i64 0) m).toList = (List.replicate m (0 : Int)).map (Value.int .i64) := by
  rw [List.map_replicate]
  exact toList_madeCells_one _ _
theorem DIx.made (h : DIx w0 B g K A n c w) (m : Nat) (hm : m ≤ 1000) : DIx w0 B g K (some ⟨w.heap.size, 0, none⟩) m m (w.alloc (.cells (zeroRow (.int .i64 0) m) 3)) := by
  obtain ⟨l, h1, h2, h3, h4⟩ := h
  refine ⟨List.replicate m 0, ?_, h2.alloc _, h3.trans (World.grownBy_alloc _ _ _), h4⟩
  have := OR.lit w w0.heap.size 3 1 m (zeroRow (.int .i64 0) m) h3.size (by omega) (by rw [zeroRow_size]; omega)
  rw [zero_ints] at this
  exact this
theorem DIx.first (h : DIx w0 B g K A n c w) (hn : 0 < n) : ∃ gb x, A = some ⟨gb, 0, none⟩ ∧ w.cell? ⟨gb, 0, none⟩ = some (.int .i64 x) ∧ w.frozen? ⟨gb, 0, none⟩ = false ∧
    ∀ y : Int, DIx w0 B g K (some ⟨gb, 0, none⟩) n c (w.setCell ⟨gb, 0, none⟩ (.int .i64 y)) := by
  obtain ⟨l, h1, h2, h3, h4⟩ := h
  have hl : l.length = n := OI.len h1
  obtain ⟨gb, rfl, k1, k2, k3, k4, k5⟩ := OR.at_ h1 hn
  refine ⟨gb, l[0], rfl, k3 0 _ (by simp), k4 0, fun y => ⟨l.set 0 y, ?_, ?_, ?_, h4⟩⟩
  · have := k5 0 (.int .i64 y)
    rw [← List.map_set] at this
    exact this
  · exact h2.off (grown_cell1 w gb 0 _) (fun k e => by cases e; have := h2.base; exact ⟨by omega, by omega⟩)
  · exact grown_then h3 (grown_cell1 w gb 0 (.int .i64 y)) k1
theorem DIx.reads (h : DIx w0 B g K A n c w) : ∃ l : List Int, l.length = n ∧ RdI w w.heap.size A l := by
  obtain ⟨l, h1, -⟩ := h
  obtain rfl := OI.len h1
  exact ⟨l, rfl, OI.rd h1⟩
end
section
variable {ops : Array Oper} {Q : Exit → Act → World → Prop} {rest : List Oper} {o : Oper} {a : Act} {w0 w : World} {B g K n c : Nat} {A : Option Addr}
theorem app_di (D : DIx w0 B g K A n c w) (hgd : o.guard = none) (s x : Operand) (ho : o.op = .call { callee := .builtin .append, args := #[s, x], argTypes := #[24, 24] }) (hs : a.eval s = .slice A n c)
    (y : Int) (hx : a.eval x = .slice (some ⟨w.heap.size, 0, none⟩) 1 1) (hn : n ≤ 1000000000)
    (hK : ∀ A' c' w', DIx w0 B g K A' (n + 1) c' w' → wpList Tryz.prog ops Q rest (a.put o.dst (.slice A' (n + 1) c')) w') : wpList Tryz.prog ops Q (o :: rest) a (w.alloc (.cells #[.int .i64 y] 3)) := by
  obtain ⟨l, h1, h2, h3, h4⟩ := D.alloc (.cells #[.int .i64 y] 3)
  refine app_int hgd s x ho w0.heap.size A n c l h1 hs y w.heap.size 1 hx (by simp [go_sem]) (by omega) h3.size ?_
  intro A' c' w' ho' hg'
  refine hK A' c' w' ⟨_, ho', h2.off hg' (fun k e => ?_), ?_, h4⟩
  · have := (OR.block h1 k e).1
    have := h2.base
    omega
  · cases hb : Value.ownBlock (.slice A n c) with
    | none => rw [hb] at hg'; exact h3.trans (hg'.but _)
    | some k => rw [hb] at hg'; exact grown_then h3 hg' (OR.block h1 k hb).1
end

set_option maxRecDepth 100000 in
set_option maxHeartbeats 8000000 in
theorem l20Memory_c {w : World} {B g K : Nat} (h : RdS w B g K) (hK : K ≤ 100000000) (n : Nat) (hn : n ≤ 1000000000) :
    Calls Tryz.prog 47 #[.pointer (some ⟨g, 0, none⟩), .int .i64 n] w fun e w' => ∃ (A : Option Addr) (m c : Nat), e = .returned (.slice A m c) ∧ m ≤ 40 ∧ DIx w B g (K + 200) A m c w' := by
  have hgl := h.lt
  have D0 := DIx.start h
  have hmk : ∀ w : World, (Instr.makeSlice 24 (.int .i64 33) (.int .i64 33)).run Tryz.prog w = .ok (.slice (some ⟨w.heap.size, 0, none⟩) 33 33) (w.alloc (.cells (zeroRow (.int .i64 0) 33) 3)) := make_int 33 (by omega)
  go_enter Tryz.func47, Tryz.ntmps47
  go_wp2_with fail
  generalize w.alloc (.cells #[] 3) = w1 at *
  refine (pick_i D0.rd (by omega) _ (by decide) (by decide)).mono ?_
  rintro e w2 ⟨v1, rfl, hv1, R1, g1, -, -⟩
  have D1 := D0.pick R1 g1
  have hq1 : IntKind.i64.wrap (1 + (v1 : Int)) = 1 + (v1 : Int) := IntWalk.i64_in _ (by omega)
  have hgl2 : g < w2.heap.size := R1.lt
  clear D0 R1 g1
  go_wp2_with fail
  have D2 := D1.alloc (.cells #[.int .i64 8, .int .i64 16, .int .i64 (1 + (v1 : Int)), .int .i64 32] 3)
  have hN := heap_alloc_new w2 (.cells #[.int .i64 8, .int .i64 16, .int .i64 (1 + (v1 : Int)), .int .i64 32] 3)
  generalize w2.alloc (.cells #[.int .i64 8, .int .i64 16, .int .i64 (1 + (v1 : Int)), .int .i64 32] 3) = w3 at *
  refine (pick_i D2.rd (by omega) _ (by decide) (by decide)).mono ?_
  rintro e w4 ⟨v2, rfl, hv2, R2, g2, -, -⟩
  have D3 := D2.pick R2 g2
  have hN4 := (g2.block _ (lt_of_block hN) (fun e => absurd (Option.some.inj e) (by omega))).trans hN
  obtain ⟨t, ht0, ht32, hc⟩ : ∃ t : Nat, 1 ≤ t ∧ t ≤ 32 ∧ w4.cell? ⟨w2.heap.size, v2, none⟩ = some (.int .i64 t) := by
    have e : v2 = 0 ∨ v2 = 1 ∨ v2 = 2 ∨ v2 = 3 := by omega
    rcases e with rfl | rfl | rfl | rfl
    · exact ⟨8, by omega, by omega, cell_of_heap hN4 0⟩
    · exact ⟨16, by omega, by omega, cell_of_heap hN4 1⟩
    · refine ⟨1 + v1, by omega, by omega, ?_⟩
      have := cell_of_heap hN4 2
      simpa using this
    · exact ⟨32, by omega, by omega, cell_of_heap hN4 3⟩
  clear D1 D2 R2 g2 hN hN4
  go_wp2
  go_loopw [5, 6] (fun ov kv wr => ∃ (k : Nat) (A : Option Addr) (m c : Nat), kv = .int .i64 k ∧ ov = .slice A m c ∧ m + k ≤ 32 ∧ 1 ≤ m + k ∧ DIx w B g (K + 110 - 3 * k) A m c wr) (fun _ kv _ => (intOf kv).toNat)
  case atStart => exact ⟨t, _, 0, 0, rfl, rfl, by omega, by omega, D3.more (by omega)⟩
  case round =>
    clear D3 hc hq1
    obtain ⟨k, A, m, c, rfl, rfl, hm1, hm2, D⟩ := hrel
    by_cases hlt : 0 < k
    · have hkI : (0 : Int) < (k : Int) := by omega
      have hq : IntKind.i64.wrap ((k : Int) - 1) = ((k - 1 : Nat) : Int) := by rw [IntWalk.i64_in _ (by omega)]; omega
      go_wp2_with fail
      refine (pick_i D.rd (by omega) _ (by decide) (by decide)).mono ?_
      rintro e w5 ⟨v3, rfl, hv3, R3, g3, -, -⟩
      have D5 := D.pick R3 g3
      clear D R3 g3
      go_wp2_with fail
      refine (pick_i D5.rd (by omega) _ (by decide) (by decide)).mono ?_
      rintro e w6 ⟨v4, rfl, hv4, R4, g4, -, -⟩
      have D6 := D5.pick R4 g4
      have hgl6 : g < w6.heap.size := R4.lt
      clear D5 R4 g4
      go_wp2_with fail
      have D7 := D6.alloc (.cells #[.int .i64 0, .int .i64 v3, .int .i64 v4] 3)
      have hN := heap_alloc_new w6 (.cells #[.int .i64 0, .int .i64 v3, .int .i64 v4] 3)
      generalize w6.alloc (.cells #[.int .i64 0, .int .i64 v3, .int .i64 v4] 3) = w7 at *
      refine (pick_i D7.rd (by omega) _ (by decide) (by decide)).mono ?_
      rintro e w8 ⟨v5, rfl, hv5, R5, g5, -, -⟩
      have D8 := D7.pick R5 g5
      have hN8 := (g5.block _ (lt_of_block hN) (fun e => absurd (Option.some.inj e) (by omega))).trans hN
      obtain ⟨y, hy⟩ : ∃ y : Int, w8.cell? ⟨w6.heap.size, v5, none⟩ = some (.int .i64 y) := by
        have e : v5 = 0 ∨ v5 = 1 ∨ v5 = 2 := by omega
        rcases e with rfl | rfl | rfl
        · exact ⟨0, cell_of_heap hN8 0⟩
        · exact ⟨v3, cell_of_heap hN8 1⟩
        · exact ⟨v4, cell_of_heap hN8 2⟩
      clear D6 D7 R5 g5 hN hN8
      go_wp2_with (at_builtin; refine app_di D8 rfl _ _ rfl rfl y rfl (by omega) ?_)
      intro A' c' w9 D9
      clear D8
      go_wp2
      go_roundw
      case rel => exact ⟨k - 1, A', m + 1, c', by go_num, rfl, by omega, by omega, D9.more (by omega)⟩
      case measure => (simp [intOf] <;> omega)
    · obtain rfl : k = 0 := by omega
      go_wp2_with fail
      refine (odd_c D.rd (by omega) n (by omega)).mono ?_
      rintro e w5 ⟨v3, rfl, -, R3, g3, -⟩
      have D5 := D.pick R3 g3
      clear D R3 g3
      cases v3 with
      | false =>
        go_wp2
        go_ret
        exact ⟨_, m, _, rfl, by omega, D5.more (by omega)⟩
      | true =>
        go_wp2_with fail
        refine (pick_i D5.rd (by omega) _ (by decide) (by decide)).mono ?_
        rintro e w6 ⟨v4, rfl, hv4, R4, g4, -, -⟩
        have D6 := D5.pick R4 g4
        have hgl6 : g < w6.heap.size := R4.lt
        clear D5 R4 g4
        have hv : v4 = 0 ∨ v4 = 1 ∨ v4 = 2 := by omega
        clear hv4
        rcases hv with rfl | rfl | rfl
        · have D7 := D6.fresh
          go_wp2
          go_ret
          exact ⟨_, 0, _, rfl, by omega, D7.more (by omega)⟩
        · have D7 := D6.alloc (.cells #[.int .i64 (-1), .int .i64 256] 3)
          have hN := heap_alloc_new w6 (.cells #[.int .i64 (-1), .int .i64 256] 3)
          go_wp2_with fail
          generalize w6.alloc (.cells #[.int .i64 (-1), .int .i64 256] 3) = w7 at *
          refine (pick_i D7.rd (by omega) _ (by decide) (by decide)).mono ?_
          rintro e w8 ⟨v6, rfl, hv6, R6, g6, -, -⟩
          have D8 := D7.pick R6 g6
          have hN8 := (g6.block _ (lt_of_block hN) (fun e => absurd (Option.some.inj e) (by omega))).trans hN
          obtain ⟨y, hy⟩ : ∃ y : Int, w8.cell? ⟨w6.heap.size, v6, none⟩ = some (.int .i64 y) := by
            have e : v6 = 0 ∨ v6 = 1 := by omega
            rcases e with rfl | rfl
            · exact ⟨-1, cell_of_heap hN8 0⟩
            · exact ⟨256, cell_of_heap hN8 1⟩
          obtain ⟨gb, x0, rfl, c0, f0, hset⟩ := D8.first (by omega)
          have D9 := hset y
          have hm0 : (0 : Int) < (m : Int) := by omega
          clear D6 D7 D8 R6 g6 hN hN8 hset
          go_wp2
          go_ret
          exact ⟨_, m, _, rfl, by omega, D9.more (by omega)⟩
        · have D7 := D6.made 33 (by omega)
          go_wp2
          go_ret
          exact ⟨_, 33, _, rfl, by omega, D7.more (by omega)⟩


section
variable {w0 w w' : World} {B g K n c : Nat} {A : Option Addr}
theorem DIx.some_ (h : DIx w0 B g K A n c w) (hn : 0 < n) : ∃ ad, A = some ad := by
  obtain ⟨gb, x, rfl, -⟩ := h.first hn
  exact ⟨_, rfl⟩
theorem DIx.take (h : DIx w0 B g K A n c w) {m : Nat} (hm : m ≤ n) : DIx w0 B g K A m c w := by
  obtain ⟨l, h1, h2, h3, h4⟩ := h
  refine ⟨l.take m, ?_, h2, h3, h4⟩
  have := OR.take_ h1 hm
  rw [Nat.mul_one, ← List.map_take] at this
  exact this
theorem DIx.capR (h : DIx w0 B g K A n c w) : n ≤ c := by
  obtain ⟨l, h1, -⟩ := h
  exact OR.cap_ h1
end
section
variable {ops : Array Oper} {Q : Exit → Act → World → Prop} {rest : List Oper} {o : Oper} {a : Act} {w0 w : World} {B g K n c : Nat} {A : Option Addr}
/-- append of an own row to a new literal. -/
theorem pre_di (D : DIx w0 B g K A n c w) (hA : ∃ ad, A = some ad) (hgd : o.guard = none) (s x : Operand) (ho : o.op = .call { callee := .builtin .append, args := #[s, x], argTypes := #[24, 24] })
    (y : Int) (hs : a.eval s = .slice (some ⟨w.heap.size, 0, none⟩) 1 1) (hx : a.eval x = .slice A n c) (hn : n ≤ 1000000)
    (hK : ∀ A' c' w', DIx w0 B g K A' (1 + n) c' w' → wpList Tryz.prog ops Q rest (a.put o.dst (.slice A' (1 + n) c')) w') : wpList Tryz.prog ops Q (o :: rest) a (w.alloc (.cells #[.int .i64 y] 3)) := by
  obtain ⟨l, h1, h2, h3, h4⟩ := D.alloc (.cells #[.int .i64 y] 3)
  obtain ⟨l0, k1, k2, k3, k4⟩ := D
  obtain ⟨ad, rfl⟩ := hA
  have hl : OR (w.alloc (.cells #[.int .i64 y] 3)) w0.heap.size 3 1 (some ⟨w.heap.size, 0, none⟩) 1 1 (#[Value.int .i64 y]).toList := OR.lit w w0.heap.size 3 1 1 _ k3.size (by omega) rfl
  refine app_rd 24 3 _ 1 8 Tryz.underlying24 infoInt rfl (by decide) (by decide) hgd s x ho w0.heap.size _ 1 1 _ hl hs _ ad n c (l.map (.int .i64)) hx (OR.reads h1) (ints_one l) (by omega) h3.size ?_
  intro A' c' w' ho' hg'
  refine hK A' c' w' ⟨y :: l, ?_, h2.off hg' (fun k e => ?_), ?_, h4⟩
  · exact ho'
  · obtain rfl : w.heap.size = k := Option.some.inj e
    have := k3.size
    have := h2.base
    have := k2.lt
    exact ⟨by omega, by omega⟩
  · exact grown_then h3 hg' k3.size
end

set_option maxRecDepth 100000 in
set_option maxHeartbeats 8000000 in
theorem l20Order_c {w : World} {B g K : Nat} (h : RdS w B g K) (hK : K ≤ 100000000) (lanes n : Nat) (hln : lanes ≤ 9) (hn : n ≤ 1000) :
    Calls Tryz.prog 20 #[.pointer (some ⟨g, 0, none⟩), .int .i64 lanes, .int .i64 n] w fun e w' => ∃ (A : Option Addr) (m c : Nat), e = .returned (.slice A m c) ∧ m ≤ 60 ∧ DIx w B g (K + 60) A m c w' := by
  have hgl := h.lt
  have D0 := DIx.start h
  have hmk : ∀ w : World, (Instr.makeSlice 24 (.int .i64 41) (.int .i64 41)).run Tryz.prog w = .ok (.slice (some ⟨w.heap.size, 0, none⟩) 41 41) (w.alloc (.cells (zeroRow (.int .i64 0) 41) 3)) := make_int 41 (by omega)
  go_enter Tryz.func20, Tryz.ntmps20
  go_wp2_with fail
  have hS0 : ∃ ad, (some (⟨w.heap.size, 0, none⟩ : Addr)) = some ad := ⟨_, rfl⟩
  generalize (some (⟨w.heap.size, 0, none⟩ : Addr)) = A0 at *
  generalize w.alloc (.cells #[] 3) = w1 at *
  refine (pick_i D0.rd (by omega) _ (by decide) (by decide)).mono ?_
  rintro e w2 ⟨v1, rfl, hv1, R1, g1, -, -⟩
  have D1 := D0.pick R1 g1
  clear D0 R1 g1
  go_wp2
  go_loopw [7, 8] (fun ov kv wr => ∃ (k : Nat) (A : Option Addr) (m c : Nat), kv = .int .i64 k ∧ ov = .slice A m c ∧ (∃ ad, A = some ad) ∧ m + k ≤ 11 ∧ DIx w B g (K + 13 - k) A m c wr) (fun _ kv _ => (intOf kv).toNat)
  case atStart => exact ⟨v1, _, 0, 0, rfl, rfl, hS0, by omega, D1.more (by omega)⟩
  case round =>
    clear D1 hS0
    obtain ⟨k, A, m, c, rfl, rfl, hS, hm1, D⟩ := hrel
    by_cases hlt : 0 < k
    · have hkI : (0 : Int) < (k : Int) := by omega
      have hq : IntKind.i64.wrap ((k : Int) - 1) = ((k - 1 : Nat) : Int) := by rw [IntWalk.i64_in _ (by omega)]; omega
      by_cases h1l : 1 < lanes
      · have h1I : ((1 : Int) < (lanes : Int)) = True := eq_true (by omega)
        go_wp2_with fail
        refine (pick_i D.rd (by omega) _ (by omega) (by omega)).mono ?_
        rintro e w5 ⟨v3, rfl, hv3, R3, g3, -, -⟩
        have D5 := D.pick R3 g3
        clear D R3 g3 h1I
        go_wp2_with (at_builtin; refine app_di D5 rfl _ _ rfl rfl v3 rfl (by omega) ?_)
        intro A' c' w9 D9
        clear D5
        go_wp2
        go_roundw
        case rel => exact ⟨k - 1, A', m + 1, c', by go_num, rfl, D9.some_ (by omega), by omega, D9.more (by omega)⟩
        case measure => (simp [intOf] <;> omega)
      · have h1I : ((1 : Int) < (lanes : Int)) = False := eq_false (by omega)
        go_wp2_with fail
        refine (pick_i D.rd (by omega) _ (by decide) (by decide)).mono ?_
        rintro e w5 ⟨v3, rfl, hv3, R3, g3, -, -⟩
        have D5 := D.pick R3 g3
        clear D R3 g3 h1I
        go_wp2_with (at_builtin; refine app_di D5 rfl _ _ rfl rfl v3 rfl (by omega) ?_)
        intro A' c' w9 D9
        clear D5
        go_wp2
        go_roundw
        case rel => exact ⟨k - 1, A', m + 1, c', by go_num, rfl, D9.some_ (by omega), by omega, D9.more (by omega)⟩
        case measure => (simp [intOf] <;> omega)
    · have hk0 : ¬ (0 : Int) < (k : Int) := by omega
      have hm2 : m ≤ 11 := by omega
      clear hlt hm1
      go_wp2
      go_loopw [7, 9] (fun ov kv wr => ∃ (k : Nat) (A : Option Addr) (m c : Nat), kv = .int .i64 k ∧ ov = .slice A m c ∧ (∃ ad, A = some ad) ∧ k ≤ lanes ∧ m ≤ 11 + k ∧ DIx w B g (K + 20 + k) A m c wr) (fun _ kv _ => lanes - (intOf kv).toNat)
      case atStart => exact ⟨0, _, _, _, rfl, rfl, hS, by omega, by omega, D.more (by omega)⟩
      case round =>
        clear D hS hm2
        obtain ⟨k, A, m, c, rfl, rfl, hS, hk, hm1, D⟩ := hrel
        by_cases hlt : k < lanes
        · have hkI : (k : Int) < (lanes : Int) := by omega
          have hq : IntKind.i64.wrap ((k : Int) + 1) = (k : Int) + 1 := IntWalk.i64_in _ (by omega)
          go_wp2_with fail
          refine (pick_i D.rd (by omega) _ (by decide) (by decide)).mono ?_
          rintro e w5 ⟨v3, rfl, hv3, R3, g3, -, -⟩
          have D5 := D.pick R3 g3
          clear D R3 g3
          have hv : v3 = 0 ∨ v3 = 1 := by omega
          clear hv3
          rcases hv with rfl | rfl
          · go_wp2_with (at_builtin; refine app_di D5 rfl _ _ rfl rfl k rfl (by omega) ?_)
            intro A' c' w9 D9
            clear D5
            go_wp2
            go_roundw
            case rel => exact ⟨k + 1, A', m + 1, c', by go_num, rfl, D9.some_ (by omega), by omega, by omega, D9.more (by omega)⟩
            case measure => (simp [intOf] <;> omega)
          · go_wp2_with (at_builtin; refine pre_di D5 hS rfl _ _ rfl k rfl rfl (by omega) ?_)
            intro A' c' w9 D9
            clear D5
            go_wp2
            go_roundw
            case rel => exact ⟨k + 1, A', 1 + m, c', by go_num, rfl, D9.some_ (by omega), by omega, by omega, D9.more (by omega)⟩
            case measure => (simp [intOf] <;> omega)
        · obtain rfl : k = lanes := by omega
          clear hlt
          go_wp2_with fail
          refine (odd_c D.rd (by omega) n (by omega)).mono ?_
          rintro e w5 ⟨v3, rfl, -, R3, g3, -⟩
          have D5 := D.pick R3 g3
          clear D R3 g3
          cases v3 with
          | false =>
            go_wp2
            go_ret
            exact ⟨_, m, _, rfl, by omega, D5.more (by omega)⟩
          | true =>
            go_wp2_with fail
            refine (pick_i D5.rd (by omega) _ (by decide) (by decide)).mono ?_
            rintro e w6 ⟨v4, rfl, hv4, R4, g4, -, -⟩
            have D6 := D5.pick R4 g4
            clear D5 R4 g4
            have hv : v4 = 0 ∨ v4 = 1 ∨ v4 = 2 := by omega
            clear hv4
            rcases hv with rfl | rfl | rfl
            · have D7 := D6.take (m := m / 2) (by omega)
              have hc := D6.capR
              have hdv : (m : Int).tdiv 2 = ((m / 2 : Nat) : Int) := by rw [Int.tdiv_eq_ediv_of_nonneg (by omega)]; omega
              have h2c : m / 2 ≤ c := by omega
              go_wp2
              go_ret
              exact ⟨_, m / 2, _, rfl, by omega, D7.more (by omega)⟩
            · go_wp2_with (at_builtin; refine app_di D6 rfl _ _ rfl rfl k rfl (by omega) ?_)
              intro A' c' w9 D9
              clear D6
              go_wp2
              go_ret
              exact ⟨_, m + 1, _, rfl, by omega, D9.more (by omega)⟩
            · have D7 := D6.made 41 (by omega)
              go_wp2
              go_ret
              exact ⟨_, 41, _, rfl, by omega, D7.more (by omega)⟩

end Go.Proofs.YtelbfeidpcojmaaGreat
