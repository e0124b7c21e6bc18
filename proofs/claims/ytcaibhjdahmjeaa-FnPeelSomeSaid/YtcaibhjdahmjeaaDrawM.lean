/- DrawPeelSome, l20Memory, l20Run: regions that draw with picks out of literals. -/
import Derived.Test.YtcaibhjdahmjeaaDraw5
import Derived.Test.YtcaibhjdahmjeaaRegSteps
namespace Go.Proofs.Ytcaibhjdahmjeaa
open Go.RowKit
set_option linter.unusedVariables false
set_option linter.unusedSimpArgs false

theorem DSx.drew {w0 w : World} {B g K n c : Nat} {A : Option Addr} (h : DSx w0 B g K A n c w) : DSx w0 B g K A n c w.drew := by
  obtain ⟨l, h1, h2, h3, h4⟩ := h
  exact ⟨l, OR.drew h1, h2.drew, ⟨h3.os, h3.tape, h3.output, h3.size, h3.block⟩, h4⟩
theorem lit7_get {v : Nat} (h : (v : Int) < 7) : ∃ u : Nat, u < 4 ∧ (u : Int) < 4 ∧ ([.int .i64 0, .int .i64 0, .int .i64 0, .int .i64 0, .int .i64 1, .int .i64 2, .int .i64 3] : List Value)[v]? = some (.int .i64 u) := by
  have e : v = 0 ∨ v = 1 ∨ v = 2 ∨ v = 3 ∨ v = 4 ∨ v = 5 ∨ v = 6 := by omega
  rcases e with rfl | rfl | rfl | rfl | rfl | rfl | rfl
  · exact ⟨0, by omega, by omega, rfl⟩
  · exact ⟨0, by omega, by omega, rfl⟩
  · exact ⟨0, by omega, by omega, rfl⟩
  · exact ⟨0, by omega, by omega, rfl⟩
  · exact ⟨1, by omega, by omega, rfl⟩
  · exact ⟨2, by omega, by omega, rfl⟩
  · exact ⟨3, by omega, by omega, rfl⟩
theorem lit4_get (a b c d : Int) {u : Nat} (h : u < 4) : ∃ t : Int, ([.int .i64 a, .int .i64 b, .int .i64 c, .int .i64 d] : List Value)[u]? = some (.int .i64 t) := by
  have e : u = 0 ∨ u = 1 ∨ u = 2 ∨ u = 3 := by omega
  rcases e with rfl | rfl | rfl | rfl
  · exact ⟨a, rfl⟩
  · exact ⟨b, rfl⟩
  · exact ⟨c, rfl⟩
  · exact ⟨d, rfl⟩

theorem lit_cell {w : World} {b : Nat} {cs : List Value} {ty : TypeId} {fr : Nat × Nat} (h : w.heap[b]? = some (.cells cs.toArray ty fr)) {v : Nat} {x : Value} (hx : cs[v]? = some x) : w.cell? ⟨b, v, none⟩ = some x := by
  rw [cell_of_row w b v cs.toArray ty fr h]
  simpa using hx

theorem psome_of {w w1 w2 : World} {B g K n c : Nat} {A : Option Addr} {t : Int} (D : DSx w1 B g K A n c w2) (hB : Below w.heap.size w w1) (hg : w.heap.size ≤ g) (hn : n ≤ 200000) :
    ∃ (l : List Cd) (A' : Option Addr) (c' : Nat) (t' : Int), Ending.returned (.tuple #[.slice A n c, .int .i64 t]) = .returned (.tuple #[.slice A' l.length c', .int .i64 t']) ∧ l.length ≤ 200000 ∧ OC w2 w.heap.size A' l.length c' l ∧ Below w.heap.size w w2 := by
  obtain ⟨l, h1, h2, h3, h4⟩ := D
  obtain rfl := OC.len h1
  exact ⟨l, A, c, t, rfl, hn, OR.mono h1 hB.size, hB.grown h3 hB.size (fun k e => by cases e; exact hg)⟩

set_option maxRecDepth 100000 in
set_option maxHeartbeats 8000000 in
theorem drawPeelSome_c (A : Option Addr) (c : Nat) (bs : List Int) (w : World) (hA : Reads w w.heap.size 1 A bs.length (bs.map (.int .u8))) (hb : ∀ x ∈ bs, 0 ≤ x ∧ x ≤ 255) (hl : bs.length ≤ 9223372036854775807) (hcap : bs.length ≤ c) :
    Calls Try.prog 34 #[.slice A bs.length c] w fun e w' => ∃ (l : List Cd) (A' : Option Addr) (c' : Nat) (t : Int), e = .returned (.tuple #[.slice A' l.length c', .int .i64 t]) ∧ l.length ≤ 200000 ∧ OC w' w.heap.size A' l.length c' l ∧ Below w.heap.size w w' := by
  go_enter Try.func34, Try.ntmps34
  go_wp2_with fail
  refine (l20Open_c A c bs w hA hb hl hcap).mono ?_
  rintro e w1 ⟨rfl, hR, hB, hs⟩
  go_wp2_with fail
  refine (l20Program_c hR (by omega) 12 (by omega)).mono ?_
  rintro e w2 ⟨A2, n2, c2, rfl, hn2, D2⟩
  clear hR
  have DA := D2.drew
  have DB := (D2.alloc (.cells #[.int .i64 0, .int .i64 0, .int .i64 0, .int .i64 0, .int .i64 1, .int .i64 2, .int .i64 3] 3)).drew
  have hM0 : (w2.alloc (.cells #[.int .i64 0, .int .i64 0, .int .i64 0, .int .i64 0, .int .i64 1, .int .i64 2, .int .i64 3] 3)).drew.heap[w2.heap.size]? = some (.cells #[.int .i64 0, .int .i64 0, .int .i64 0, .int .i64 0, .int .i64 1, .int .i64 2, .int .i64 3] 3 (0, 0)) := heap_alloc_new w2 (.cells #[.int .i64 0, .int .i64 0, .int .i64 0, .int .i64 0, .int .i64 1, .int .i64 2, .int .i64 3] 3)
  have hgl := D2.rd.lt
  go_upto_region 3 with (fail)
  go_region_law (first
    | (go_simp; go_at_call 82; with_reducible refine (pick_i DA.rd (by omega) 5 (by decide) (by decide)).mono ?_; rintro e w4 ⟨v5, rfl, hv5, R5, hg5, -, -⟩; have D4 := DA.pick R5 hg5; have hg4 : w.heap.size < w4.heap.size := R5.lt)
    | (go_simp; go_at_call 82; with_reducible refine (pick_i DB.rd (by omega) 5 (by decide) (by decide)).mono ?_; rintro e w4 ⟨v5, rfl, hv5, R5, hg5, -, -⟩; have D4 := DB.pick R5 hg5; have hg4 : w.heap.size < w4.heap.size := R5.lt; have hM := (hg5.block w2.heap.size (lt_of_block hM0) (fun e => absurd (Option.some.inj e) (by omega))).trans hM0)
    | (go_simp; go_at_call 82; with_reducible refine (pick_i D4.rd (by omega) 7 (by decide) (by decide)).mono ?_; rintro e w6 ⟨v7, rfl, hv7, R7, hg7, -, -⟩; have D7 := D4.pick R7 hg7; obtain ⟨u7, hu7, hu7I, hx7⟩ := lit7_get hv7; obtain ⟨t7, ht7⟩ := lit4_get v5 (-1) 40 41 hu7; have c14 := lit_cell (cs := [.int .i64 0, .int .i64 0, .int .i64 0, .int .i64 0, .int .i64 1, .int .i64 2, .int .i64 3]) ((hg7.block w2.heap.size (by exact lt_of_block hM) (fun e => absurd (Option.some.inj e) (by omega))).trans (hM)) hx7; have c14b := (Ext.alloc w6 (.cells #[.int .i64 v5, .int .i64 (-1), .int .i64 40, .int .i64 41] 3)).cell c14)
    | (go_simp; go_at_call 82; with_reducible refine (pick_i (D4.alloc (.cells #[.int .i64 v5, .int .i64 (-1), .int .i64 40, .int .i64 41] 3)).rd (by omega) 7 (by decide) (by decide)).mono ?_; rintro e w6 ⟨v7, rfl, hv7, R7, hg7, -, -⟩; have D7 := (D4.alloc (.cells #[.int .i64 v5, .int .i64 (-1), .int .i64 40, .int .i64 41] 3)).pick R7 hg7; obtain ⟨u7, hu7, hu7I, hx7⟩ := lit7_get hv7; obtain ⟨t7, ht7⟩ := lit4_get v5 (-1) 40 41 hu7; have c14 := lit_cell (cs := [.int .i64 0, .int .i64 0, .int .i64 0, .int .i64 0, .int .i64 1, .int .i64 2, .int .i64 3]) ((hg7.block w2.heap.size (by simp; have := lt_of_block hM; omega) (fun e => absurd (Option.some.inj e) (by omega))).trans ((Ext.alloc w4 (.cells #[.int .i64 v5, .int .i64 (-1), .int .i64 40, .int .i64 41] 3)).heap_ hM)) hx7; have c13 := lit_cell (cs := [.int .i64 v5, .int .i64 (-1), .int .i64 40, .int .i64 41]) ((hg7.block w4.heap.size (by simp <;> omega) (fun e => absurd (Option.some.inj e) (by omega))).trans (heap_alloc_new w4 (.cells #[.int .i64 v5, .int .i64 (-1), .int .i64 40, .int .i64 41] 3))) ht7)
    | (go_simp; go_at_call 82; with_reducible refine (pick_i D4.rd (by omega) 7 (by decide) (by decide)).mono ?_; rintro e w6 ⟨v7, rfl, hv7, R7, hg7, -, -⟩; have D7 := D4.pick R7 hg7; obtain ⟨u7, hu7, hu7I, hx7⟩ := lit7_get hv7; obtain ⟨t7, ht7⟩ := lit4_get v5 (-1) 40 41 hu7)
    | (go_simp; go_at_call 82; with_reducible refine (pick_i (D4.alloc (.cells #[.int .i64 v5, .int .i64 (-1), .int .i64 40, .int .i64 41] 3)).rd (by omega) 7 (by decide) (by decide)).mono ?_; rintro e w6 ⟨v7, rfl, hv7, R7, hg7, -, -⟩; have D7 := (D4.alloc (.cells #[.int .i64 v5, .int .i64 (-1), .int .i64 40, .int .i64 41] 3)).pick R7 hg7; obtain ⟨u7, hu7, hu7I, hx7⟩ := lit7_get hv7; obtain ⟨t7, ht7⟩ := lit4_get v5 (-1) 40 41 hu7; have c13 := lit_cell (cs := [.int .i64 v5, .int .i64 (-1), .int .i64 40, .int .i64 41]) ((hg7.block w4.heap.size (by simp <;> omega) (fun e => absurd (Option.some.inj e) (by omega))).trans (heap_alloc_new w4 (.cells #[.int .i64 v5, .int .i64 (-1), .int .i64 40, .int .i64 41] 3))) ht7; have c13b := (Ext.alloc w6 (.cells #[.int .i64 0, .int .i64 0, .int .i64 0, .int .i64 0, .int .i64 1, .int .i64 2, .int .i64 3] 3)).cell c13)
    | (go_simp; go_at_call 82; with_reducible refine (pick_i (D4.alloc (.cells #[.int .i64 0, .int .i64 0, .int .i64 0, .int .i64 0, .int .i64 1, .int .i64 2, .int .i64 3] 3)).rd (by omega) 7 (by decide) (by decide)).mono ?_; rintro e w6 ⟨v7, rfl, hv7, R7, hg7, -, -⟩; have D7 := (D4.alloc (.cells #[.int .i64 0, .int .i64 0, .int .i64 0, .int .i64 0, .int .i64 1, .int .i64 2, .int .i64 3] 3)).pick R7 hg7; obtain ⟨u7, hu7, hu7I, hx7⟩ := lit7_get hv7; obtain ⟨t7, ht7⟩ := lit4_get v5 (-1) 40 41 hu7; have c14 := lit_cell (cs := [.int .i64 0, .int .i64 0, .int .i64 0, .int .i64 0, .int .i64 1, .int .i64 2, .int .i64 3]) ((hg7.block w4.heap.size (by simp <;> omega) (fun e => absurd (Option.some.inj e) (by omega))).trans (heap_alloc_new w4 (.cells #[.int .i64 0, .int .i64 0, .int .i64 0, .int .i64 0, .int .i64 1, .int .i64 2, .int .i64 3] 3))) hx7; have c14b := (Ext.alloc w6 (.cells #[.int .i64 v5, .int .i64 (-1), .int .i64 40, .int .i64 41] 3)).cell c14)
    | (go_simp; go_at_call 82; with_reducible refine (pick_i ((D4.alloc (.cells #[.int .i64 v5, .int .i64 (-1), .int .i64 40, .int .i64 41] 3)).alloc (.cells #[.int .i64 0, .int .i64 0, .int .i64 0, .int .i64 0, .int .i64 1, .int .i64 2, .int .i64 3] 3)).rd (by omega) 7 (by decide) (by decide)).mono ?_; rintro e w6 ⟨v7, rfl, hv7, R7, hg7, -, -⟩; have D7 := ((D4.alloc (.cells #[.int .i64 v5, .int .i64 (-1), .int .i64 40, .int .i64 41] 3)).alloc (.cells #[.int .i64 0, .int .i64 0, .int .i64 0, .int .i64 0, .int .i64 1, .int .i64 2, .int .i64 3] 3)).pick R7 hg7; obtain ⟨u7, hu7, hu7I, hx7⟩ := lit7_get hv7; obtain ⟨t7, ht7⟩ := lit4_get v5 (-1) 40 41 hu7; have c13 := lit_cell (cs := [.int .i64 v5, .int .i64 (-1), .int .i64 40, .int .i64 41]) ((hg7.block w4.heap.size (by simp <;> omega) (fun e => absurd (Option.some.inj e) (by omega))).trans ((Ext.alloc (w4.alloc (.cells #[.int .i64 v5, .int .i64 (-1), .int .i64 40, .int .i64 41] 3)) (.cells #[.int .i64 0, .int .i64 0, .int .i64 0, .int .i64 0, .int .i64 1, .int .i64 2, .int .i64 3] 3)).heap_ (heap_alloc_new w4 (.cells #[.int .i64 v5, .int .i64 (-1), .int .i64 40, .int .i64 41] 3)))) ht7; have c14 := lit_cell (cs := [.int .i64 0, .int .i64 0, .int .i64 0, .int .i64 0, .int .i64 1, .int .i64 2, .int .i64 3]) ((hg7.block (w4.heap.size + 1) (by simp <;> omega) (fun e => absurd (Option.some.inj e) (by omega))).trans (by have := heap_alloc_new (w4.alloc (.cells #[.int .i64 v5, .int .i64 (-1), .int .i64 40, .int .i64 41] 3)) (.cells #[.int .i64 0, .int .i64 0, .int .i64 0, .int .i64 0, .int .i64 1, .int .i64 2, .int .i64 3] 3); simpa using this)) hx7)
    | (go_simp; go_at_call 82; with_reducible refine (pick_i ((D4.alloc (.cells #[.int .i64 0, .int .i64 0, .int .i64 0, .int .i64 0, .int .i64 1, .int .i64 2, .int .i64 3] 3)).alloc (.cells #[.int .i64 v5, .int .i64 (-1), .int .i64 40, .int .i64 41] 3)).rd (by omega) 7 (by decide) (by decide)).mono ?_; rintro e w6 ⟨v7, rfl, hv7, R7, hg7, -, -⟩; have D7 := ((D4.alloc (.cells #[.int .i64 0, .int .i64 0, .int .i64 0, .int .i64 0, .int .i64 1, .int .i64 2, .int .i64 3] 3)).alloc (.cells #[.int .i64 v5, .int .i64 (-1), .int .i64 40, .int .i64 41] 3)).pick R7 hg7; obtain ⟨u7, hu7, hu7I, hx7⟩ := lit7_get hv7; obtain ⟨t7, ht7⟩ := lit4_get v5 (-1) 40 41 hu7; have c14 := lit_cell (cs := [.int .i64 0, .int .i64 0, .int .i64 0, .int .i64 0, .int .i64 1, .int .i64 2, .int .i64 3]) ((hg7.block w4.heap.size (by simp <;> omega) (fun e => absurd (Option.some.inj e) (by omega))).trans ((Ext.alloc (w4.alloc (.cells #[.int .i64 0, .int .i64 0, .int .i64 0, .int .i64 0, .int .i64 1, .int .i64 2, .int .i64 3] 3)) (.cells #[.int .i64 v5, .int .i64 (-1), .int .i64 40, .int .i64 41] 3)).heap_ (heap_alloc_new w4 (.cells #[.int .i64 0, .int .i64 0, .int .i64 0, .int .i64 0, .int .i64 1, .int .i64 2, .int .i64 3] 3)))) hx7; have c13 := lit_cell (cs := [.int .i64 v5, .int .i64 (-1), .int .i64 40, .int .i64 41]) ((hg7.block (w4.heap.size + 1) (by simp <;> omega) (fun e => absurd (Option.some.inj e) (by omega))).trans (by have := heap_alloc_new (w4.alloc (.cells #[.int .i64 0, .int .i64 0, .int .i64 0, .int .i64 0, .int .i64 1, .int .i64 2, .int .i64 3] 3)) (.cells #[.int .i64 v5, .int .i64 (-1), .int .i64 40, .int .i64 41] 3); simpa using this)) ht7))
  all_goals
    obtain ⟨hl7, hv7x⟩ := List.getElem?_eq_some_iff.1 ht7
    try simp only [hv7x]
    go_wp2
    go_ret2
    try simp only [hv7x]
    first
      | exact psome_of D7 hB (Nat.le_refl _) hn2
      | exact psome_of (D7.alloc _) hB (Nat.le_refl _) hn2
      | exact psome_of ((D7.alloc _).alloc _) hB (Nat.le_refl _) hn2
end Go.Proofs.Ytcaibhjdahmjeaa
