/- Drawn names of registers. -/
import Derived.Test.YtcaibhjdahmjeaaSame
namespace Go.Proofs.Ytcaibhjdahmjeaa
open Go.RowKit
set_option linter.unusedVariables false
set_option linter.unusedSimpArgs false

/-- A slice of numbers of the callee's own, and the reader. -/
structure NmD (w0 : World) (B g K nb : Nat) (w : World) : Prop where
  row : ∃ t : List Int, t.length = 4 ∧ OI w w0.heap.size (some ⟨nb, 0, none⟩) 4 4 t
  rd : RdS w B g K
  gr : w0.grownBy w (some g)
  ne : nb ≠ g
  glt : g < w0.heap.size
theorem NmD.pick {w0 w w' : World} {B g K K' nb : Nat} (h : NmD w0 B g K nb w) (hR : RdS w' B g K') (hg : w.grownBy w' (some g)) : NmD w0 B g K' nb w' := by
  obtain ⟨⟨t, h4, ho⟩, h2, h3, h5, h6⟩ := h
  exact ⟨⟨t, h4, OR.kept ho hg (.inr (fun e => h5 (by have := Option.some.inj e; exact this)))⟩, hR, h3.trans hg, h5, h6⟩
theorem NmD.alloc {w0 w : World} {B g K nb : Nat} (h : NmD w0 B g K nb w) (o : Obj) : NmD w0 B g K nb (w.alloc o) := by
  obtain ⟨⟨t, h4, ho⟩, h2, h3, h5, h6⟩ := h
  exact ⟨⟨t, h4, OR.alloc ho o⟩, h2.alloc o, h3.trans (World.grownBy_alloc _ _ _), h5, h6⟩
theorem NmD.more {w0 w : World} {B g K K' nb : Nat} (h : NmD w0 B g K nb w) (hK : K ≤ K') : NmD w0 B g K' nb w := ⟨h.row, h.rd.more hK, h.gr, h.ne, h.glt⟩
theorem NmD.set {w0 w : World} {B g K nb : Nat} (h : NmD w0 B g K nb w) (i : Nat) (v : Int) : NmD w0 B g K nb (w.setCell ⟨nb, i, none⟩ (.int .i64 v)) := by
  obtain ⟨⟨t, h4, ho⟩, h2, h3, h5, h6⟩ := h
  have hb := (OR.base_le ho).1
  exact ⟨⟨t.set i v, by simp [h4], (OI.at0 ho).2.2 i v⟩, h2.off (grown_cell1 w nb i _) (fun k e => by cases e; exact ⟨by have := h2.base; omega, h5⟩), grown_then h3 (grown_cell1 w nb i _) hb, h5, h6⟩
theorem NmD.cell {w0 w : World} {B g K nb : Nat} (h : NmD w0 B g K nb w) {i : Nat} (hi : i < 4) : ∃ x : Int, w.cell? ⟨nb, i, none⟩ = some (.int .i64 x) ∧ w.frozen? ⟨nb, i, none⟩ = false := by
  obtain ⟨⟨t, h4, ho⟩, -⟩ := h
  exact ⟨_, (OI.at0 ho).1 i _ (List.getElem?_eq_getElem (by omega)), (OI.at0 ho).2.1 i⟩
/-- What is returned. -/
def NmP (w0 : World) (B g K : Nat) (e : Ending) (w : World) : Prop := ∃ (t : List Int) (A : Option Addr) (c : Nat), e = .returned (.slice A t.length c) ∧ t.length ≤ 4 ∧ RdI w w.heap.size A t ∧ RdS w B g K ∧ w0.grownBy w (some g) ∧ g < w0.heap.size
theorem NmD.done {w0 w : World} {B g K nb : Nat} (h : NmD w0 B g K nb w) : NmP w0 B g K (.returned (.slice (some ⟨nb, 0, none⟩) 4 4)) w := by
  obtain ⟨⟨t, h4, ho⟩, h2, h3, h5, h6⟩ := h
  refine ⟨t, _, 4, by rw [h4], by omega, ?_, h2, h3, h6⟩
  have := OR.reads ho
  unfold RdI
  rw [h4]; exact this
theorem NmD.tail {w0 w : World} {B g K nb : Nat} (h : NmD w0 B g K nb w) : NmP w0 B g K (.returned (.slice (some ⟨nb, 1, none⟩) 3 3)) w := by
  obtain ⟨⟨t, h4, ho⟩, h2, h3, h5, h6⟩ := h
  have hlen : (t.drop 1).length = 3 := by simp [h4]
  refine ⟨t.drop 1, _, 3, by rw [hlen], by omega, ?_, h2, h3, h6⟩
  refine ⟨by simp, fun _ => ⟨nb, 1, rfl, (OR.base_le ho).2, fun j u hu => ?_⟩⟩
  rw [List.getElem?_map, List.getElem?_drop] at hu
  obtain ⟨x, hx, rfl⟩ := Option.map_eq_some_iff.1 hu
  exact (OI.at0 ho).1 _ _ hx

set_option maxRecDepth 100000 in
set_option maxHeartbeats 4000000 in
theorem l20Names_c {w : World} {B g K : Nat} (h : RdS w B g K) (hK : K ≤ 10000000) (n : Nat) (hn : n ≤ 100) :
    Calls Try.prog 73 #[.pointer (some ⟨g, 0, none⟩), .int .i64 n] w (NmP w B g (K + 100)) := by
  have hg := h.lt
  have D0 : NmD w B g K w.heap.size (w.alloc (.cells #[.int .i64 0, .int .i64 1, .int .i64 2, .int .i64 3] 3)) :=
    ⟨⟨[0, 1, 2, 3], rfl, OR.lit w w.heap.size 3 1 4 #[.int .i64 0, .int .i64 1, .int .i64 2, .int .i64 3] (Nat.le_refl _) (by omega) rfl⟩, h.alloc _, World.grownBy_alloc _ _ _, by omega, hg⟩
  go_enter Try.func73, Try.ntmps73
  go_wp2_with fail
  generalize w.alloc (.cells #[.int .i64 0, .int .i64 1, .int .i64 2, .int .i64 3] 3) = w1 at *
  refine (pick_i D0.rd (by omega) _ (by decide) (by decide)).mono ?_
  rintro e w2 ⟨v2, rfl, hv2, hR2, hg2, -, -⟩
  have D2 := D0.pick hR2 hg2
  clear D0 hR2 hg2 h
  generalize w.heap.size = nb at *
  go_wp2
  go_loopw [6] (fun kv wr => ∃ k : Nat, k ≤ v2 ∧ kv = .int .i64 k ∧ NmD w B g (K + 20 - 2 * k) nb wr) (fun kv _ => (intOf kv).toNat)
  case atStart => exact ⟨v2, Nat.le_refl _, rfl, D2.more (by omega)⟩
  case round =>
    clear D2
    obtain ⟨k, hk, rfl, D⟩ := hrel
    by_cases hlt : 0 < k
    · have hkI : (0 : Int) < (k : Int) := by omega
      have hq : IntKind.i64.wrap ((k : Int) - 1) = ((k - 1 : Nat) : Int) := by rw [IntWalk.i64_in _ (by omega)]; omega
      go_wp2_with fail
      refine (pick_i D.rd (by omega) _ (by decide) (by decide)).mono ?_
      rintro e w3 ⟨v3, rfl, hv3, hR3, hg3, -, -⟩
      have D3 := D.pick hR3 hg3
      clear D hR3 hg3
      go_wp2_with fail
      refine (pick_i D3.rd (by omega) _ (by decide) (by decide)).mono ?_
      rintro e w4 ⟨v4, rfl, hv4, hR4, hg4, -, -⟩
      have D4 := D3.pick hR4 hg4
      clear D3 hR4 hg4
      obtain ⟨x3, c3, f3⟩ := D4.cell (i := v3) (by omega)
      obtain ⟨x4, c4, f4⟩ := D4.cell (i := v4) (by omega)
      have D5 := D4.set v3 x4
      obtain ⟨x5, c5, f5⟩ := D5.cell (i := v4) (by omega)
      have D6 := D5.set v4 x3
      clear D4 D5
      go_wp2
      go_roundw
      case rel => exact ⟨k - 1, by omega, by go_num, D6.more (by omega)⟩
      case measure => (simp [intOf] <;> omega)
    · obtain rfl : k = 0 := by omega
      go_wp2_with fail
      refine (odd_c D.rd (by omega) n (by omega)).mono ?_
      rintro e w3 ⟨v3, rfl, -, hR3, hg3, -⟩
      have D3 := D.pick hR3 hg3
      clear D hR3 hg3
      cases v3 with
      | false =>
        go_wp2
        go_ret
        exact (D3.more (by omega)).done
      | true =>
        go_wp2_with fail
        refine (pick_i D3.rd (by omega) _ (by decide) (by decide)).mono ?_
        rintro e w4 ⟨v4, rfl, hv4, hR4, hg4, -, -⟩
        have D4 := D3.pick hR4 hg4
        clear D3 hR4 hg4
        have hv : v4 = 0 ∨ v4 = 1 ∨ v4 = 2 := by omega
        clear hv4
        rcases hv with rfl | rfl | rfl
        · obtain ⟨x1, c1, f1⟩ := D4.cell (i := 1) (by omega)
          obtain ⟨x0, c0, f0⟩ := D4.cell (i := 0) (by omega)
          have D5 := D4.set 0 x1
          clear D4
          go_wp2
          go_ret
          exact (D5.more (by omega)).done
        · go_wp2
          go_ret
          exact (D4.more (by omega)).tail
        · have D5 := D4.alloc (.cells #[.int .i64 (-1), .int .i64 4] 3)
          have hN := heap_alloc_new w4 (.cells #[.int .i64 (-1), .int .i64 4] 3)
          have hs4 := D4.gr.size
          have hgl := D4.glt
          clear D4
          go_wp2_with fail
          have hne : w4.heap.size ≠ g := by omega
          generalize w4.alloc (.cells #[.int .i64 (-1), .int .i64 4] 3) = w5 at *
          refine (pick_i D5.rd (by omega) _ (by decide) (by decide)).mono ?_
          rintro e w6 ⟨v6, rfl, hv6, hR6, hg6, -, -⟩
          have D6 := D5.pick hR6 hg6
          have hN6 := (hg6.block _ (lt_of_block hN) (fun e => hne (Option.some.inj e))).trans hN
          obtain ⟨y, hy⟩ : ∃ y : Int, w6.cell? ⟨w4.heap.size, v6, none⟩ = some (.int .i64 y) := by
            have h01 : v6 = 0 ∨ v6 = 1 := by omega
            rcases h01 with rfl | rfl
            · exact ⟨-1, cell_of_heap hN6 0⟩
            · exact ⟨4, cell_of_heap hN6 1⟩
          obtain ⟨x0, c0, f0⟩ := D6.cell (i := 0) (by omega)
          have D7 := D6.set 0 y
          clear D5 D6 hR6 hg6 hN hN6
          go_wp2
          go_ret
          exact (D7.more (by omega)).done
end Go.Proofs.Ytcaibhjdahmjeaa
