/- Part 5 of what the claim needs. -/
import Derived.Test.YtelbfeidpcojmaaGreatLau1
import Derived.Test.YtelbfeidpcojmaaGreatLau2
import Derived.Test.YtelbfeidpcojmaaGreatLau4
namespace Go.Proofs.YtelbfeidpcojmaaGreat
open Go.RowKit
set_option linter.unusedVariables false
set_option linter.unusedSimpArgs false

/-- An own row of numbers that is being drawn. -/
def DIx (w0 : World) (B g K : Nat) (A : Option Addr) (n c : Nat) (w : World) : Prop :=
  ∃ l : List Int, OI w w0.heap.size A n c l ∧ RdS w B g K ∧ w0.grownBy w (some g) ∧ g < w0.heap.size

section
variable {w0 w w' : World} {B g K n c : Nat} {A : Option Addr}
theorem DIx.rd (h : DIx w0 B g K A n c w) : RdS w B g K := by
  obtain ⟨l, -, h, -⟩ := h
  exact h
theorem DIx.gr (h : DIx w0 B g K A n c w) : w0.grownBy w (some g) := by
  obtain ⟨l, -, -, h, -⟩ := h
  exact h
theorem DIx.pick (h : DIx w0 B g K A n c w) {K' : Nat} (hR : RdS w' B g K') (hg : w.grownBy w' (some g)) : DIx w0 B g K' A n c w' := by
  obtain ⟨l, h1, h2, h3, h4⟩ := h
  refine ⟨l, OR.kept h1 hg ?_, hR, h3.trans hg, h4⟩
  cases hb : Value.ownBlock (.slice A n c) with
  | none => exact .inl rfl
  | some k => exact .inr (fun e => by have := (OR.block h1 k hb).1; have := Option.some.inj e; omega)
theorem DIx.alloc (h : DIx w0 B g K A n c w) (o : Obj) : DIx w0 B g K A n c (w.alloc o) := by
  obtain ⟨l, h1, h2, h3, h4⟩ := h
  exact ⟨l, OR.alloc h1 o, h2.alloc o, h3.trans (World.grownBy_alloc _ _ _), h4⟩
theorem DIx.more (h : DIx w0 B g K A n c w) {K' : Nat} (hK : K ≤ K') : DIx w0 B g K' A n c w := by
  obtain ⟨l, h1, h2, h3, h4⟩ := h
  exact ⟨l, h1, h2.more hK, h3, h4⟩
theorem DIx.start (h : RdS w B g K) : DIx w B g K (some ⟨w.heap.size, 0, none⟩) 0 0 (w.alloc (.cells #[] 3)) :=
  ⟨[], OI.empty_ w _ (Nat.le_refl _), h.alloc _, World.grownBy_alloc _ _ _, h.lt⟩
theorem DIx.fresh (h : DIx w0 B g K A n c w) : DIx w0 B g K (some ⟨w.heap.size, 0, none⟩) 0 0 (w.alloc (.cells #[] 3)) := by
  obtain ⟨l, h1, h2, h3, h4⟩ := h
  exact ⟨[], OI.empty_ w _ h3.size, h2.alloc _, h3.trans (World.grownBy_alloc _ _ _), h4⟩
theorem zero_ints (m : Nat) : (zeroRow (.int .i64 0) m).toList = (List.replicate m (0 : Int)).map (Value.int .i64) := by
  rw [List.map_replicate]
  exact toList_madeCells_one _ _
theorem DIx.made (h : DIx w0 B g K A n c w) (m : Nat) (hm : m ≤ 1000) : DIx w0 B g K (some ⟨w.heap.size, 0, none⟩) m m (w.alloc (.cells (zeroRow (.int .i64 0) m) 3)) := by
  obtain ⟨l, h1, h2, h3, h4⟩ := h
  refine ⟨List.replicate m 0, ?_, h2.alloc _, h3.trans (World.grownBy_alloc _ _ _), h4⟩
  have := OR.lit w w0.heap.size 3 1 m (zeroRow (.int .i64 0) m) h3.size (by omega) (by rw [zeroRow_size]; omega)
  rw [zero_ints] at this
  exact this
theorem DIx.first (h : DIx w0 B g K A n c w) (hn : 0 < n) : ∃ gb x, A = some ⟨gb, 0, none⟩ ∧ w.cell? ⟨gb, 0, none⟩ = some (.int .i64 x) ∧ w.frozen? ⟨gb, 0, none⟩ = false ∧
    ∀ y : Int, DIx w0 B g K (some ⟨gb, 0, none⟩) n c (w.setCell ⟨gb, 0, none⟩ (.int .i64 y)) := by
  obtain ⟨l, h1, h2, h3, h4⟩ := h
  have hl : l.length = n := OI.len h1
  obtain ⟨gb, rfl, k1, k2, k3, k4, k5⟩ := OR.at_ h1 hn
  refine ⟨gb, l[0], rfl, k3 0 _ (by simp), k4 0, fun y => ⟨l.set 0 y, ?_, ?_, ?_, h4⟩⟩
  · have := k5 0 (.int .i64 y)
    rw [← List.map_set] at this
    exact this
  · exact h2.off (grown_cell1 w gb 0 _) (fun k e => by cases e; have := h2.base; exact ⟨by omega, by omega⟩)
  · exact grown_then h3 (grown_cell1 w gb 0 (.int .i64 y)) k1
theorem DIx.reads (h : DIx w0 B g K A n c w) : ∃ l : List Int, l.length = n ∧ RdI w w.heap.size A l := by
  obtain ⟨l, h1, -⟩ := h
  obtain rfl := OI.len h1
  exact ⟨l, rfl, OI.rd h1⟩
end
section
variable {ops : Array Oper} {Q : Exit → Act → World → Prop} {rest : List Oper} {o : Oper} {a : Act} {w0 w : World} {B g K n c : Nat} {A : Option Addr}
theorem app_di (D : DIx w0 B g K A n c w) (hgd : o.guard = none) (s x : Operand) (ho : o.op = .call { callee := .builtin .append, args := #[s, x], argTypes := #[24, 24] }) (hs : a.eval s = .slice A n c)
    (y : Int) (hx : a.eval x = .slice (some ⟨w.heap.size, 0, none⟩) 1 1) (hn : n ≤ 1000000000)
    (hK : ∀ A' c' w', DIx w0 B g K A' (n + 1) c' w' → wpList Tryz.prog ops Q rest (a.put o.dst (.slice A' (n + 1) c')) w') : wpList Tryz.prog ops Q (o :: rest) a (w.alloc (.cells #[.int .i64 y] 3)) := by
  obtain ⟨l, h1, h2, h3, h4⟩ := D.alloc (.cells #[.int .i64 y] 3)
  refine app_int hgd s x ho w0.heap.size A n c l h1 hs y w.heap.size 1 hx (by simp [go_sem]) (by omega) h3.size ?_
  intro A' c' w' ho' hg'
  refine hK A' c' w' ⟨_, ho', h2.off hg' (fun k e => ?_), ?_, h4⟩
  · have := (OR.block h1 k e).1
    have := h2.base
    omega
  · cases hb : Value.ownBlock (.slice A n c) with
    | none => rw [hb] at hg'; exact h3.trans (hg'.but _)
    | some k => rw [hb] at hg'; exact grown_then h3 hg' (OR.block h1 k hb).1
end

set_option maxRecDepth 100000 in
set_option maxHeartbeats 8000000 in
theorem l20Memory_c {w : World} {B g K : Nat} (h : RdS w B g K) (hK : K ≤ 100000000) (n : Nat) (hn : n ≤ 1000000000) :
    Calls Tryz.prog 47 #[.pointer (some ⟨g, 0, none⟩), .int .i64 n] w fun e w' => ∃ (A : Option Addr) (m c : Nat), e = .returned (.slice A m c) ∧ m ≤ 40 ∧ DIx w B g (K + 200) A m c w' := by
  have hgl := h.lt
  have D0 := DIx.start h
  have hmk : ∀ w : World, (Instr.makeSlice 24 (.int .i64 33) (.int .i64 33)).run Tryz.prog w = .ok (.slice (some ⟨w.heap.size, 0, none⟩) 33 33) (w.alloc (.cells (zeroRow (.int .i64 0) 33) 3)) := make_int 33 (by omega)
  go_enter Tryz.func47, Tryz.ntmps47
  go_wp2_with fail
  generalize w.alloc (.cells #[] 3) = w1 at *
  refine (pick_i D0.rd (by omega) _ (by decide) (by decide)).mono ?_
  rintro e w2 ⟨v1, rfl, hv1, R1, g1, -, -⟩
  have D1 := D0.pick R1 g1
  have hq1 : IntKind.i64.wrap (1 + (v1 : Int)) = 1 + (v1 : Int) := IntWalk.i64_in _ (by omega)
  have hgl2 : g < w2.heap.size := R1.lt
  clear D0 R1 g1
  go_wp2_with fail
  have D2 := D1.alloc (.cells #[.int .i64 8, .int .i64 16, .int .i64 (1 + (v1 : Int)), .int .i64 32] 3)
  have hN := heap_alloc_new w2 (.cells #[.int .i64 8, .int .i64 16, .int .i64 (1 + (v1 : Int)), .int .i64 32] 3)
  generalize w2.alloc (.cells #[.int .i64 8, .int .i64 16, .int .i64 (1 + (v1 : Int)), .int .i64 32] 3) = w3 at *
  refine (pick_i D2.rd (by omega) _ (by decide) (by decide)).mono ?_
  rintro e w4 ⟨v2, rfl, hv2, R2, g2, -, -⟩
  have D3 := D2.pick R2 g2
  have hN4 := (g2.block _ (lt_of_block hN) (fun e => absurd (Option.some.inj e) (by omega))).trans hN
  obtain ⟨t, ht0, ht32, hc⟩ : ∃ t : Nat, 1 ≤ t ∧ t ≤ 32 ∧ w4.cell? ⟨w2.heap.size, v2, none⟩ = some (.int .i64 t) := by
    have e : v2 = 0 ∨ v2 = 1 ∨ v2 = 2 ∨ v2 = 3 := by omega
    rcases e with rfl | rfl | rfl | rfl
    · exact ⟨8, by omega, by omega, cell_of_heap hN4 0⟩
    · exact ⟨16, by omega, by omega, cell_of_heap hN4 1⟩
    · refine ⟨1 + v1, by omega, by omega, ?_⟩
      have := cell_of_heap hN4 2
      simpa using this
    · exact ⟨32, by omega, by omega, cell_of_heap hN4 3⟩
  clear D1 D2 R2 g2 hN hN4
  go_wp2
  go_loopw [5, 6] (fun ov kv wr => ∃ (k : Nat) (A : Option Addr) (m c : Nat), kv = .int .i64 k ∧ ov = .slice A m c ∧ m + k ≤ 32 ∧ 1 ≤ m + k ∧ DIx w B g (K + 110 - 3 * k) A m c wr) (fun _ kv _ => (intOf kv).toNat)
  case atStart => exact ⟨t, _, 0, 0, rfl, rfl, by omega, by omega, D3.more (by omega)⟩
  case round =>
    clear D3 hc hq1
    obtain ⟨k, A, m, c, rfl, rfl, hm1, hm2, D⟩ := hrel
    by_cases hlt : 0 < k
    · have hkI : (0 : Int) < (k : Int) := by omega
      have hq : IntKind.i64.wrap ((k : Int) - 1) = ((k - 1 : Nat) : Int) := by rw [IntWalk.i64_in _ (by omega)]; omega
      go_wp2_with fail
      refine (pick_i D.rd (by omega) _ (by decide) (by decide)).mono ?_
      rintro e w5 ⟨v3, rfl, hv3, R3, g3, -, -⟩
      have D5 := D.pick R3 g3
      clear D R3 g3
      go_wp2_with fail
      refine (pick_i D5.rd (by omega) _ (by decide) (by decide)).mono ?_
      rintro e w6 ⟨v4, rfl, hv4, R4, g4, -, -⟩
      have D6 := D5.pick R4 g4
      have hgl6 : g < w6.heap.size := R4.lt
      clear D5 R4 g4
      go_wp2_with fail
      have D7 := D6.alloc (.cells #[.int .i64 0, .int .i64 v3, .int .i64 v4] 3)
      have hN := heap_alloc_new w6 (.cells #[.int .i64 0, .int .i64 v3, .int .i64 v4] 3)
      generalize w6.alloc (.cells #[.int .i64 0, .int .i64 v3, .int .i64 v4] 3) = w7 at *
      refine (pick_i D7.rd (by omega) _ (by decide) (by decide)).mono ?_
      rintro e w8 ⟨v5, rfl, hv5, R5, g5, -, -⟩
      have D8 := D7.pick R5 g5
      have hN8 := (g5.block _ (lt_of_block hN) (fun e => absurd (Option.some.inj e) (by omega))).trans hN
      obtain ⟨y, hy⟩ : ∃ y : Int, w8.cell? ⟨w6.heap.size, v5, none⟩ = some (.int .i64 y) := by
        have e : v5 = 0 ∨ v5 = 1 ∨ v5 = 2 := by omega
        rcases e with rfl | rfl | rfl
        · exact ⟨0, cell_of_heap hN8 0⟩
        · exact ⟨v3, cell_of_heap hN8 1⟩
        · exact ⟨v4, cell_of_heap hN8 2⟩
      clear D6 D7 R5 g5 hN hN8
      go_wp2_with (at_builtin; refine app_di D8 rfl _ _ rfl rfl y rfl (by omega) ?_)
      intro A' c' w9 D9
      clear D8
      go_wp2
      go_roundw
      case rel => exact ⟨k - 1, A', m + 1, c', by go_num, rfl, by omega, by omega, D9.more (by omega)⟩
      case measure => (simp [intOf] <;> omega)
    · obtain rfl : k = 0 := by omega
      go_wp2_with fail
      refine (odd_c D.rd (by omega) n (by omega)).mono ?_
      rintro e w5 ⟨v3, rfl, -, R3, g3, -⟩
      have D5 := D.pick R3 g3
      clear D R3 g3
      cases v3 with
      | false =>
        go_wp2
        go_ret
        exact ⟨_, m, _, rfl, by omega, D5.more (by omega)⟩
      | true =>
        go_wp2_with fail
        refine (pick_i D5.rd (by omega) _ (by decide) (by decide)).mono ?_
        rintro e w6 ⟨v4, rfl, hv4, R4, g4, -, -⟩
        have D6 := D5.pick R4 g4
        have hgl6 : g < w6.heap.size := R4.lt
        clear D5 R4 g4
        have hv : v4 = 0 ∨ v4 = 1 ∨ v4 = 2 := by omega
        clear hv4
        rcases hv with rfl | rfl | rfl
        · have D7 := D6.fresh
          go_wp2
          go_ret
          exact ⟨_, 0, _, rfl, by omega, D7.more (by omega)⟩
        · have D7 := D6.alloc (.cells #[.int .i64 (-1), .int .i64 256] 3)
          have hN := heap_alloc_new w6 (.cells #[.int .i64 (-1), .int .i64 256] 3)
          go_wp2_with fail
          generalize w6.alloc (.cells #[.int .i64 (-1), .int .i64 256] 3) = w7 at *
          refine (pick_i D7.rd (by omega) _ (by decide) (by decide)).mono ?_
          rintro e w8 ⟨v6, rfl, hv6, R6, g6, -, -⟩
          have D8 := D7.pick R6 g6
          have hN8 := (g6.block _ (lt_of_block hN) (fun e => absurd (Option.some.inj e) (by omega))).trans hN
          obtain ⟨y, hy⟩ : ∃ y : Int, w8.cell? ⟨w6.heap.size, v6, none⟩ = some (.int .i64 y) := by
            have e : v6 = 0 ∨ v6 = 1 := by omega
            rcases e with rfl | rfl
            · exact ⟨-1, cell_of_heap hN8 0⟩
            · exact ⟨256, cell_of_heap hN8 1⟩
          obtain ⟨gb, x0, rfl, c0, f0, hset⟩ := D8.first (by omega)
          have D9 := hset y
          have hm0 : (0 : Int) < (m : Int) := by omega
          clear D6 D7 D8 R6 g6 hN hN8 hset
          go_wp2
          go_ret
          exact ⟨_, m, _, rfl, by omega, D9.more (by omega)⟩
        · have D7 := D6.made 33 (by omega)
          go_wp2
          go_ret
          exact ⟨_, 33, _, rfl, by omega, D7.more (by omega)⟩

def DRun (w : World) (B g K : Nat) (e : Ending) (w' : World) : Prop :=
  ∃ (A : Option Addr) (n c : Nat) (lanes : Int) (Am : Option Addr) (m cm : Nat), e = .returned (.tuple #[.slice A n c, .int .i64 lanes, .slice Am m cm]) ∧ n ≤ 200000 ∧ m ≤ 40 ∧ 0 ≤ lanes ∧ lanes ≤ 9 ∧
    DSx w B g K A n c w' ∧ ∃ l : List Int, l.length = m ∧ RdI w' w'.heap.size Am l

set_option maxRecDepth 100000 in
set_option maxHeartbeats 8000000 in
theorem l20Run_c {w : World} {B g K : Nat} (h : RdS w B g K) (hK : K ≤ 1000000) (n : Nat) (hn : n ≤ 1000) :
    Calls Tryz.prog 18 #[.pointer (some ⟨g, 0, none⟩), .int .i64 n] w (DRun w B g (K + 600000)) := by
  go_enter Tryz.func18, Tryz.ntmps18
  go_wp2_with fail
  refine (l20Program_c h (by omega) n (by omega)).mono ?_
  rintro e w2 ⟨A2, n2, c2, rfl, hn2, D2⟩
  have hgl := h.lt
  clear h
  go_wp2_with fail
  refine (pick_i D2.rd (by omega) _ (by decide) (by decide)).mono ?_
  rintro e w3 ⟨v1, rfl, hv1, R3, g3, -, -⟩
  have D3 := D2.pick R3 g3
  have hq1 : IntKind.i64.wrap (1 + (v1 : Int)) = 1 + (v1 : Int) := IntWalk.i64_in _ (by omega)
  clear D2 R3 g3
  go_wp2_with fail
  refine (odd_c D3.rd (by omega) 9 (by omega)).mono ?_
  rintro e w4 ⟨v2, rfl, -, R4, g4, -⟩
  have D4 := D3.pick R4 g4
  clear D3 R4 g4
  cases v2 with
  | false =>
    go_wp2_with fail
    refine (odd_c D4.rd (by omega) n (by omega)).mono ?_
    rintro e w5 ⟨v3, rfl, -, R5, g5, -⟩
    have D5 := D4.pick R5 g5
    have hgl5 : g < w5.heap.size := R5.lt
    clear D4 R5 g5
    cases v3 with
    | false =>
      go_wp2_with fail
      refine (l20Memory_c D5.rd (by omega) n (by omega)).mono ?_
      rintro e w9 ⟨Am, m, cm, rfl, hm, DM⟩
      have D9 := D5.pick DM.rd DM.gr
      obtain ⟨l, hl, hrd⟩ := DM.reads
      clear DM D5
      go_wp2
      go_ret3
      exact ⟨A2, n2, c2, _, Am, m, cm, rfl, hn2, hm, by omega, by omega, D9.more (by omega), l, hl, hrd⟩
    | true =>
      have D6 := D5.alloc (.cells #[.int .i64 0, .int .i64 9] 3)
      have hN := heap_alloc_new w5 (.cells #[.int .i64 0, .int .i64 9] 3)
      go_wp2_with fail
      generalize w5.alloc (.cells #[.int .i64 0, .int .i64 9] 3) = w6 at *
      refine (pick_i D6.rd (by omega) _ (by decide) (by decide)).mono ?_
      rintro e w7 ⟨v6, rfl, hv6, R7, g7, -, -⟩
      have D7 := D6.pick R7 g7
      have hN7 := (g7.block _ (lt_of_block hN) (fun e => absurd (Option.some.inj e) (by omega))).trans hN
      obtain ⟨y, hy0, hy9, hy⟩ : ∃ y : Int, 0 ≤ y ∧ y ≤ 9 ∧ w7.cell? ⟨w5.heap.size, v6, none⟩ = some (.int .i64 y) := by
        have e : v6 = 0 ∨ v6 = 1 := by omega
        rcases e with rfl | rfl
        · exact ⟨0, by omega, by omega, cell_of_heap hN7 0⟩
        · exact ⟨9, by omega, by omega, cell_of_heap hN7 1⟩
      clear D5 D6 R7 g7 hN hN7
      go_wp2_with fail
      refine (l20Memory_c D7.rd (by omega) n (by omega)).mono ?_
      rintro e w9 ⟨Am, m, cm, rfl, hm, DM⟩
      have D9 := D7.pick DM.rd DM.gr
      obtain ⟨l, hl, hrd⟩ := DM.reads
      clear DM D7
      go_wp2
      go_ret3
      exact ⟨A2, n2, c2, _, Am, m, cm, rfl, hn2, hm, by omega, by omega, D9.more (by omega), l, hl, hrd⟩
  | true =>
    go_wp2_with fail
    refine (odd_c D4.rd (by omega) n (by omega)).mono ?_
    rintro e w5 ⟨v3, rfl, -, R5, g5, -⟩
    have D5 := D4.pick R5 g5
    have hgl5 : g < w5.heap.size := R5.lt
    clear D4 R5 g5
    cases v3 with
    | false =>
      go_wp2_with fail
      refine (l20Memory_c D5.rd (by omega) n (by omega)).mono ?_
      rintro e w9 ⟨Am, m, cm, rfl, hm, DM⟩
      have D9 := D5.pick DM.rd DM.gr
      obtain ⟨l, hl, hrd⟩ := DM.reads
      clear DM D5
      go_wp2
      go_ret3
      exact ⟨A2, n2, c2, _, Am, m, cm, rfl, hn2, hm, by omega, by omega, D9.more (by omega), l, hl, hrd⟩
    | true =>
      have D6 := D5.alloc (.cells #[.int .i64 0, .int .i64 9] 3)
      have hN := heap_alloc_new w5 (.cells #[.int .i64 0, .int .i64 9] 3)
      go_wp2_with fail
      generalize w5.alloc (.cells #[.int .i64 0, .int .i64 9] 3) = w6 at *
      refine (pick_i D6.rd (by omega) _ (by decide) (by decide)).mono ?_
      rintro e w7 ⟨v6, rfl, hv6, R7, g7, -, -⟩
      have D7 := D6.pick R7 g7
      have hN7 := (g7.block _ (lt_of_block hN) (fun e => absurd (Option.some.inj e) (by omega))).trans hN
      obtain ⟨y, hy0, hy9, hy⟩ : ∃ y : Int, 0 ≤ y ∧ y ≤ 9 ∧ w7.cell? ⟨w5.heap.size, v6, none⟩ = some (.int .i64 y) := by
        have e : v6 = 0 ∨ v6 = 1 := by omega
        rcases e with rfl | rfl
        · exact ⟨0, by omega, by omega, cell_of_heap hN7 0⟩
        · exact ⟨9, by omega, by omega, cell_of_heap hN7 1⟩
      clear D5 D6 R7 g7 hN hN7
      go_wp2_with fail
      refine (l20Memory_c D7.rd (by omega) n (by omega)).mono ?_
      rintro e w9 ⟨Am, m, cm, rfl, hm, DM⟩
      have D9 := D7.pick DM.rd DM.gr
      obtain ⟨l, hl, hrd⟩ := DM.reads
      clear DM D7
      go_wp2
      go_ret3
      exact ⟨A2, n2, c2, _, Am, m, cm, rfl, hn2, hm, by omega, by omega, D9.more (by omega), l, hl, hrd⟩


theorem op14' {x : Cd} (h : cvOk x = true) (h10 : x.op ≤ 10) : x.op = 1 ∨ x.op = 2 ∨ x.op = 3 ∨ x.op = 4 ∨ x.op = 5 ∨ x.op = 6 ∨ x.op = 7 ∨ x.op = 8 ∨ x.op = 9 ∨ x.op = 10 := by
  have := cvOk_op h; omega

def wordsOk (r : List Int) : Prop := ∀ v ∈ r, 0 ≤ v ∧ v ≤ 255
def rg (r : List Int) (i : Int) : Int := r.getD i.toNat 0
def lessI (a b : Int) : Int := if a < b then 1 else 0
/-- One instruction that is not part of the structure, on the registers of a lane and the memory. -/
def simp1 (x : Cd) (id : Nat) (r m : List Int) : List Int × List Int :=
  if x.op == 1 then (r.set x.a.toNat x.b, m)
  else if x.op == 2 then (r.set x.a.toNat id, m)
  else if x.op == 3 then (r.set x.a.toNat ((rg r x.a + rg r x.b) % 256), m)
  else if x.op == 4 then (r.set x.a.toNat (rg r x.a * rg r x.b % 256), m)
  else if x.op == 5 then (r.set x.a.toNat (rg r x.b), m)
  else if x.op == 6 then (r.set x.a.toNat (lessI (rg r x.b) (rg r x.c)), m)
  else if x.op == 7 then (if rg r x.c == 0 then r else r.set x.a.toNat (rg r x.b), m)
  else if x.op == 8 then (r.set x.a.toNat (m.getD (rg r x.b % m.length).toNat 0), m)
  else if x.op == 9 then (r, m.set (rg r x.b % m.length).toNat (rg r x.a))
  else (r, m)

theorem rg_word {r : List Int} (h : wordsOk r) (i : Int) : 0 ≤ rg r i ∧ rg r i ≤ 255 := by
  unfold rg
  rw [List.getD_eq_getElem?_getD]
  cases hx : r[i.toNat]? with
  | none => simp
  | some v => exact h v (List.mem_of_getElem? hx)
theorem getD_word {r : List Int} (h : wordsOk r) (i : Nat) : 0 ≤ r.getD i 0 ∧ r.getD i 0 ≤ 255 := by
  rw [List.getD_eq_getElem?_getD]
  cases hx : r[i]? with
  | none => simp
  | some v => exact h v (List.mem_of_getElem? hx)
theorem words_set {r : List Int} (h : wordsOk r) (i : Nat) {v : Int} (hv : 0 ≤ v ∧ v ≤ 255) : wordsOk (r.set i v) := by
  intro u hu
  rcases List.mem_or_eq_of_mem_set hu with hu | rfl
  · exact h u hu
  · exact hv
theorem simp1_len (x : Cd) (id : Nat) (r m : List Int) : (simp1 x id r m).1.length = r.length ∧ (simp1 x id r m).2.length = m.length := by
  unfold simp1
  repeat' split
  all_goals simp
theorem simp1_words {x : Cd} {id : Nat} {r m : List Int} (hv : cvOk x = true) (hid : id ≤ 255) (hr : wordsOk r) (hm : wordsOk m) : wordsOk (simp1 x id r m).1 ∧ wordsOk (simp1 x id r m).2 := by
  have hb := cvOk_b hv
  have ra := rg_word hr x.a
  have rb := rg_word hr x.b
  have rc := rg_word hr x.c
  have gm := getD_word hm (rg r x.b % m.length).toNat
  unfold simp1
  split
  · exact ⟨words_set hr _ hb, hm⟩
  split
  · exact ⟨words_set hr _ (by omega), hm⟩
  split
  · exact ⟨words_set hr _ (by omega), hm⟩
  split
  · exact ⟨words_set hr _ ⟨Int.emod_nonneg _ (by omega), by have := Int.emod_lt_of_pos (rg r x.a * rg r x.b) (show (0 : Int) < 256 by omega); omega⟩, hm⟩
  split
  · exact ⟨words_set hr _ rb, hm⟩
  split
  · exact ⟨words_set hr _ (by unfold lessI; split <;> omega), hm⟩
  split
  · refine ⟨?_, hm⟩
    dsimp only
    split
    · exact hr
    · exact words_set hr _ rb
  split
  · exact ⟨words_set hr _ gm, hm⟩
  split
  · exact ⟨hr, words_set hm _ ra⟩
  · exact ⟨hr, hm⟩

/-- An access to the memory. -/
structure Acc where
  who : Nat
  cell : Nat
  wr : Bool
  ph : Nat
  deriving DecidableEq

/-- The state of lanes in lockstep. -/
structure LS where
  regs : List (List Int)
  mem : List Int
  beats : List (Nat × Nat)
  accs : List Acc
  phase : Nat

def lanesOf (m : Nat) : List Nat := (List.range 8).filter fun k => m.testBit k
def LS.reg (s : LS) (k : Nat) (r : Int) : Int := rg (s.regs.getD k []) r
def beat (p m : Nat) (s : LS) : LS := { s with beats := s.beats ++ [(p, m)] }
/-- The lanes of a mask whose register is not 0. -/
def onesOf (m : Nat) (r : Int) (s : LS) : Nat := (lanesOf m).foldl (fun out k => if s.reg k r == 0 then out else out ||| 2 ^ k) 0
def memOp (x : Cd) : Bool := x.op == 8 || x.op == 9
def exec1 (x : Cd) (s : LS) (k : Nat) : LS :=
  { s with
    regs := s.regs.set k (simp1 x k (s.regs.getD k []) s.mem).1
    mem := (simp1 x k (s.regs.getD k []) s.mem).2
    accs := if memOp x then s.accs ++ [⟨k, (s.reg k x.b % s.mem.length).toNat, x.op == 9, s.phase⟩] else s.accs }
def execM (x : Cd) (m : Nat) (s : LS) : LS :=
  let t := (lanesOf m).foldl (exec1 x) s
  if x.op == 10 then { t with phase := t.phase + 1 } else t

/-- n turns of a loop: the mask of the lanes that go on, and the state. -/
def turnsOf (f : Nat → LS → LS) (a : Int) : Nat → Nat → LS → LS
  | 0, _, s => s
  | n + 1, m, s => turnsOf f a n (onesOf m a s) (f (onesOf m a s) s)

/-- A tree that begins at place p, under a mask. -/
def Blk.run : Blk → Nat → Nat → LS → LS
  | .nil, _, _, s => s
  | .op x r, p, m, s => if m = 0 then s else r.run (p + 1) m (execM x m (beat p m s))
  | .iff a t r, p, m, s => if m = 0 then s else
      r.run (p + t.flat.length + 2) m (t.run (p + 1) (onesOf m a s) (beat p m s))
  | .ife a t e r, p, m, s => if m = 0 then s else
      r.run (p + t.flat.length + e.flat.length + 3) m (e.run (p + t.flat.length + 2) (mdiff m (onesOf m a s)) (t.run (p + 1) (onesOf m a s) (beat p m s)))
  | .loop a b t r, p, m, s => if m = 0 then s else
      r.run (p + t.flat.length + 2) m (turnsOf (fun m s => t.run (p + 1) m s) a b.toNat m (beat p m s))

/-- The lanes before a run. -/
def LS.start (n : Nat) (mem : List Int) : LS := ⟨List.replicate n [0, 0, 0, 0], mem, [], [], 0⟩
/-- A run of a whole program. -/
def runT (b : Blk) (n : Nat) (mem : List Int) : LS := b.run 0 (2 ^ n - 1) (LS.start n mem)

/-! ### Folds over lanes -/
theorem foldl_lanes {α : Type} (m : Nat) (f : α → Nat → α) (s : α) : (lanesOf m).foldl f s = (List.range 8).foldl (fun s k => if m.testBit k then f s k else s) s := by
  unfold lanesOf
  rw [List.foldl_filter]

def onesTo (m : Nat) (a : Int) (s : LS) : Nat → Nat
  | 0 => 0
  | k + 1 => if m.testBit k && !(s.reg k a == 0) then onesTo m a s k ||| 2 ^ k else onesTo m a s k
def execTo (x : Cd) (m : Nat) (s : LS) : Nat → LS
  | 0 => s
  | k + 1 => if m.testBit k then exec1 x (execTo x m s k) k else execTo x m s k

theorem foldl_range {α : Type} (f : α → Nat → α) (s : α) (g : Nat → α) (h0 : g 0 = s) (hs : ∀ k, g (k + 1) = f (g k) k) : ∀ n, (List.range n).foldl f s = g n
  | 0 => h0.symm
  | n + 1 => by rw [List.range_succ, List.foldl_append, foldl_range f s g h0 hs n, hs n]; rfl
theorem onesOf_to (m : Nat) (a : Int) (s : LS) : onesOf m a s = onesTo m a s 8 := by
  unfold onesOf
  rw [foldl_lanes]
  refine foldl_range _ _ (onesTo m a s) rfl (fun k => ?_) 8
  simp only [onesTo]
  cases m.testBit k <;> cases (s.reg k a == 0) <;> rfl
theorem exec_to (x : Cd) (m : Nat) (s : LS) : (lanesOf m).foldl (exec1 x) s = execTo x m s 8 := by
  rw [foldl_lanes]
  exact foldl_range _ _ (execTo x m s) rfl (fun k => rfl) 8
theorem testBit_high {m n k : Nat} (h : m < 2 ^ n) (hk : n ≤ k) : m.testBit k = false := Nat.testBit_lt_two_pow (Nat.lt_of_lt_of_le h (Nat.pow_le_pow_right (by decide) hk))
theorem onesTo_more {m n : Nat} (h : m < 2 ^ n) (a : Int) (s : LS) : ∀ j, onesTo m a s (n + j) = onesTo m a s n
  | 0 => rfl
  | j + 1 => by
    show onesTo m a s (n + j + 1) = _
    simp [onesTo, testBit_high h (Nat.le_add_right n j), onesTo_more h a s j]
theorem execTo_more {m n : Nat} (h : m < 2 ^ n) (x : Cd) (s : LS) : ∀ j, execTo x m s (n + j) = execTo x m s n
  | 0 => rfl
  | j + 1 => by
    show execTo x m s (n + j + 1) = _
    simp [execTo, testBit_high h (Nat.le_add_right n j), execTo_more h x s j]
theorem onesOf_n {m n : Nat} (h : m < 2 ^ n) (hn : n ≤ 8) (a : Int) (s : LS) : onesOf m a s = onesTo m a s n := by
  rw [onesOf_to, show 8 = n + (8 - n) by omega, onesTo_more h]
theorem exec_n {m n : Nat} (h : m < 2 ^ n) (hn : n ≤ 8) (x : Cd) (s : LS) : (lanesOf m).foldl (exec1 x) s = execTo x m s n := by
  rw [exec_to, show 8 = n + (8 - n) by omega, execTo_more h]
theorem onesTo_lt (m : Nat) (a : Int) (s : LS) : ∀ k, onesTo m a s k < 2 ^ k
  | 0 => by simp [onesTo]
  | k + 1 => by
    have h := onesTo_lt m a s k
    have h2 : 2 ^ k < 2 ^ (k + 1) := Nat.pow_lt_pow_right (by decide) (by omega)
    simp only [onesTo]
    split
    · exact Nat.or_lt_two_pow (by omega) h2
    · omega
theorem onesTo_bit (m : Nat) (a : Int) (s : LS) (i : Nat) : ∀ k, (onesTo m a s k).testBit i = (decide (i < k) && (m.testBit i && !(s.reg i a == 0)))
  | 0 => by simp [onesTo]
  | k + 1 => by
    have h := onesTo_bit m a s i k
    simp only [onesTo]
    by_cases e : i = k
    · subst e
      split
      · rename_i hc
        rw [Nat.testBit_or, Nat.testBit_two_pow_self, Bool.or_true, hc]; simp
      · rename_i hc
        rw [h]
        simp only [Nat.lt_irrefl, decide_false, Bool.false_and]
        simp only [Bool.not_eq_true] at hc
        rw [hc]; simp
    · have e2 : (i < k + 1) = (i < k) := by simp; omega
      have e3 : decide (i < k + 1) = decide (i < k) := by simp only [e2]
      rw [e3]
      split
      · rw [Nat.testBit_or, h, Nat.testBit_two_pow_of_ne (fun h => e h.symm)]; simp
      · exact h
theorem onesOf_bit (m : Nat) (a : Int) (s : LS) (i : Nat) (hm : m < 2 ^ 8) : (onesOf m a s).testBit i = (m.testBit i && !(s.reg i a == 0)) := by
  rw [onesOf_to, onesTo_bit]
  by_cases h : i < 8
  · simp [h]
  · have := testBit_high (k := i) hm (by omega)
    simp [h, this]
theorem onesOf_lt {m n : Nat} (h : m < 2 ^ n) (hn : n ≤ 8) (a : Int) (s : LS) : onesOf m a s < 2 ^ n := by
  rw [onesOf_n h hn]; exact onesTo_lt _ _ _ _
theorem onesOf_zero (a : Int) (s : LS) : onesOf 0 a s = 0 := by
  rw [onesOf_n (n := 0) (by simp) (by omega)]; rfl

/-! ### What is kept -/
/-- n lanes with 4 registers each, and a memory. -/
structure SOk (n : Nat) (s : LS) : Prop where
  n8 : n ≤ 8
  len : s.regs.length = n
  four : ∀ r ∈ s.regs, r.length = 4 ∧ wordsOk r
  memw : wordsOk s.mem
  mem1 : 1 ≤ s.mem.length
  mem2 : s.mem.length ≤ 32
theorem SOk.get {n : Nat} {s : LS} (h : SOk n s) {k : Nat} (hk : k < n) : (s.regs.getD k []).length = 4 ∧ wordsOk (s.regs.getD k []) := by
  have hk2 : k < s.regs.length := by rw [h.len]; exact hk
  have : s.regs.getD k [] = s.regs[k] := by simp [List.getD_eq_getElem?_getD, List.getElem?_eq_getElem hk2]
  rw [this]
  exact h.four _ (List.getElem_mem hk2)
theorem SOk.beat {n : Nat} {s : LS} (h : SOk n s) (p m : Nat) : SOk n (beat p m s) := ⟨h.n8, h.len, h.four, h.memw, h.mem1, h.mem2⟩
theorem SOk.exec1 {n : Nat} {s : LS} (h : SOk n s) {x : Cd} (hv : cvOk x = true) {k : Nat} (hk : k < n) : SOk n (exec1 x s k) := by
  have hg := h.get hk
  have hl := simp1_len x k (s.regs.getD k []) s.mem
  have hw := simp1_words (id := k) hv (by have := h.n8; omega) hg.2 h.memw
  refine ⟨h.n8, by simp [Proofs.YtelbfeidpcojmaaGreat.exec1, h.len], fun r hr => ?_, hw.2, by show 1 ≤ _; rw [show (Proofs.YtelbfeidpcojmaaGreat.exec1 x s k).mem = (simp1 x k (s.regs.getD k []) s.mem).2 from rfl, hl.2]; exact h.mem1, by rw [show (Proofs.YtelbfeidpcojmaaGreat.exec1 x s k).mem = (simp1 x k (s.regs.getD k []) s.mem).2 from rfl, hl.2]; exact h.mem2⟩
  rcases List.mem_or_eq_of_mem_set hr with hr | rfl
  · exact h.four r hr
  · exact ⟨hl.1.trans hg.1, hw.1⟩
theorem SOk.execTo {n : Nat} {s : LS} (h : SOk n s) {x : Cd} (hv : cvOk x = true) (m : Nat) : ∀ k, k ≤ n → SOk n (execTo x m s k)
  | 0, _ => h
  | k + 1, hk => by
    have := SOk.execTo h hv m k (by omega)
    simp only [Proofs.YtelbfeidpcojmaaGreat.execTo]
    split
    · exact this.exec1 hv (by omega)
    · exact this
theorem execM_eq {m n : Nat} (h : m < 2 ^ n) (hn : n ≤ 8) (x : Cd) (s : LS) : execM x m s = if x.op == 10 then { execTo x m s n with phase := (execTo x m s n).phase + 1 } else execTo x m s n := by
  simp only [execM, exec_n h hn]
theorem SOk.execM {n : Nat} {s : LS} (h : SOk n s) {x : Cd} (hv : cvOk x = true) {m : Nat} (hm : m < 2 ^ n) : SOk n (execM x m s) := by
  have := h.execTo hv m n (Nat.le_refl _)
  rw [execM_eq hm h.n8]
  split
  · exact ⟨this.n8, this.len, this.four, this.memw, this.mem1, this.mem2⟩
  · exact this
theorem turns_ok {n : Nat} {f : Nat → LS → LS} (hf : ∀ m s, m < 2 ^ n → SOk n s → SOk n (f m s)) (a : Int) : ∀ (b m : Nat) (s : LS), m < 2 ^ n → SOk n s → SOk n (turnsOf f a b m s)
  | 0, _, _, _, h => h
  | b + 1, m, s, hm, h => turns_ok hf a b _ _ (onesOf_lt hm h.n8 a s) (hf _ _ (onesOf_lt hm h.n8 a s) h)
theorem run_ok {n : Nat} (b : Blk) : ∀ (d p m : Nat) (s : LS), b.ok d → m < 2 ^ n → SOk n s → SOk n (b.run p m s) := by
  induction b with
  | nil => intro d p m s _ _ h; exact h
  | op x r ih =>
    intro d p m s ⟨hx, h1, h2, hr⟩ hm h
    simp only [Blk.run]
    split
    · exact h
    · exact ih d _ _ _ hr hm ((h.beat p m).execM hx hm)
  | iff a t r iht ihr =>
    intro d p m s ⟨_, _, ht, hr⟩ hm h
    simp only [Blk.run]
    split
    · exact h
    · exact ihr d _ _ _ hr hm (iht _ _ _ _ ht (onesOf_lt hm h.n8 a s) (h.beat p m))
  | ife a t e r iht ihe ihr =>
    intro d p m s ⟨_, _, ht, he, hr⟩ hm h
    simp only [Blk.run]
    split
    · exact h
    · exact ihr d _ _ _ hr hm (ihe _ _ _ _ he (mdiff_lt hm) (iht _ _ _ _ ht (onesOf_lt hm h.n8 a s) (h.beat p m)))
  | loop a c t r iht ihr =>
    intro d p m s ⟨_, _, _, ht, hr⟩ hm h
    simp only [Blk.run]
    split
    · exact h
    · exact ihr d _ _ _ hr hm (turns_ok (fun m s hm h => iht _ _ _ _ ht hm h) a _ _ _ hm (h.beat p m))

/-! ### Places -/
theorem drop_cons {l : List Cd} {q : Nat} {x : Cd} {r : List Cd} (h : l.drop q = x :: r) : l[q]? = some x ∧ l.drop (q + 1) = r ∧ q < l.length := by
  have h1 : l[q]? = some x := by
    have := congrArg (fun m => m[0]?) h
    simpa using this
  refine ⟨h1, ?_, (List.getElem?_eq_some_iff.1 h1).1⟩
  rw [← List.drop_drop, h]; rfl
theorem drop_skip {l : List Cd} {q : Nat} {m r : List Cd} (h : l.drop q = m ++ r) : l.drop (q + m.length) = r := by
  rw [← List.drop_drop, h, List.drop_left]
theorem end_iff {l : List Cd} {q d : Nat} {x : Cd} {t : Blk} {r : List Cd} (ht : t.ok d) (h : l.drop q = x :: (t.flat ++ cEnd :: r)) :
    endOf l q = (((q + t.flat.length + 1 : Nat) : Int), (-1 : Int)) ∧ l.drop (q + 1) = t.flat ++ cEnd :: r ∧ l.drop (q + t.flat.length + 2) = r := by
  obtain ⟨h1, h2, h3⟩ := drop_cons h
  have h4 := drop_skip h2
  refine ⟨?_, h2, ?_⟩
  · unfold endOf
    rw [h2, scanE_flat t d _ _ _ _ ht, scanE_end0]
    congr 1
    omega
  · have := (drop_cons h4).2.1
    rw [← this]; congr 1; omega
theorem end_ife {l : List Cd} {q d d' : Nat} {x : Cd} {t e : Blk} {r : List Cd} (ht : t.ok d) (he : e.ok d') (h : l.drop q = x :: (t.flat ++ cElse :: (e.flat ++ cEnd :: r))) :
    endOf l q = (((q + t.flat.length + e.flat.length + 2 : Nat) : Int), ((q + t.flat.length + 1 : Nat) : Int)) ∧ l.drop (q + 1) = t.flat ++ cElse :: (e.flat ++ cEnd :: r) ∧
      l.drop (q + t.flat.length + 2) = e.flat ++ cEnd :: r ∧ l.drop (q + t.flat.length + e.flat.length + 3) = r := by
  obtain ⟨h1, h2, h3⟩ := drop_cons h
  have h4 := drop_skip h2
  have h5 := (drop_cons h4).2.1
  have h5' : l.drop (q + t.flat.length + 2) = e.flat ++ cEnd :: r := by rw [← h5]; congr 1; omega
  have h6 := drop_skip h5'
  refine ⟨?_, h2, h5', ?_⟩
  · unfold endOf
    rw [h2, scanE_flat t d _ _ _ _ ht, scanE_else, if_pos rfl, scanE_flat e d' _ _ _ _ he, scanE_end0]
    congr 1
    · omega
    · omega
  · have := (drop_cons h6).2.1
    rw [← this]; congr 1; omega

/-! ### Barriers that are split -/
def splitB (l : List Cd) (n : Nat) (bs : List (Nat × Nat)) : Bool := bs.any fun q => opAt l q.1 == 10 && !(q.2 == 2 ^ n - 1)
theorem splitB_snoc (l : List Cd) (n : Nat) (bs : List (Nat × Nat)) (p m : Nat) : splitB l n (bs ++ [(p, m)]) = (splitB l n bs || (opAt l p == 10 && !(m == 2 ^ n - 1))) := by
  simp [splitB, List.any_append]
theorem execTo_beats (x : Cd) (m : Nat) (s : LS) : ∀ k, (execTo x m s k).beats = s.beats
  | 0 => rfl
  | k + 1 => by
    simp only [execTo]
    split
    · exact execTo_beats x m s k
    · exact execTo_beats x m s k

/-! ### How many steps a tree can have -/
def Blk.wt : Blk → Nat
  | .nil => 0
  | .op _ r => 1 + r.wt
  | .iff _ t r => 1 + t.wt + r.wt
  | .ife _ t e r => 1 + t.wt + e.wt + r.wt
  | .loop _ b t r => 1 + b.toNat * t.wt + r.wt
theorem wt_le (b : Blk) : ∀ d, b.ok d → b.wt ≤ 4 ^ d * b.flat.length := by
  induction b with
  | nil => intro d _; simp [Blk.wt]
  | op x r ih =>
    intro d ⟨_, _, _, hr⟩
    have := ih d hr
    have h1 : 1 ≤ 4 ^ d := Nat.one_le_pow _ _ (by decide)
    simp only [Blk.wt, Blk.flat, List.length_cons, Nat.mul_add]
    omega
  | iff a t r iht ihr =>
    intro d ⟨_, hd, ht, hr⟩
    have h1 := iht (d - 1) ht
    have h2 := ihr d hr
    obtain ⟨e, rfl⟩ : ∃ e, d = e + 1 := ⟨d - 1, by omega⟩
    have h3 : 1 ≤ 4 ^ e := Nat.one_le_pow _ _ (by decide)
    simp only [Nat.add_sub_cancel] at h1
    simp only [Blk.wt, Blk.flat, List.length_cons, List.length_append, Nat.mul_add, Nat.pow_succ] at *
    have : 4 ^ e * t.flat.length ≤ 4 ^ e * 4 * t.flat.length := Nat.mul_le_mul_right _ (by omega)
    omega
  | ife a t e r iht ihe ihr =>
    intro d ⟨_, hd, ht, he, hr⟩
    have h1 := iht (d - 1) ht
    have h1e := ihe (d - 1) he
    have h2 := ihr d hr
    obtain ⟨f, rfl⟩ : ∃ f, d = f + 1 := ⟨d - 1, by omega⟩
    have h3 : 1 ≤ 4 ^ f := Nat.one_le_pow _ _ (by decide)
    simp only [Nat.add_sub_cancel] at h1 h1e
    simp only [Blk.wt, Blk.flat, List.length_cons, List.length_append, Nat.mul_add, Nat.pow_succ] at *
    have q1 : 4 ^ f * t.flat.length ≤ 4 ^ f * 4 * t.flat.length := Nat.mul_le_mul_right _ (by omega)
    have q2 : 4 ^ f * e.flat.length ≤ 4 ^ f * 4 * e.flat.length := Nat.mul_le_mul_right _ (by omega)
    omega
  | loop a c t r iht ihr =>
    intro d ⟨_, hc, hd, ht, hr⟩
    have h1 := iht (d - 1) ht
    have h2 := ihr d hr
    obtain ⟨e, rfl⟩ : ∃ e, d = e + 1 := ⟨d - 1, by omega⟩
    have h3 : 1 ≤ 4 ^ e := Nat.one_le_pow _ _ (by decide)
    simp only [Nat.add_sub_cancel] at h1
    simp only [Blk.wt, Blk.flat, List.length_cons, List.length_append, Nat.mul_add, Nat.pow_succ] at *
    have q1 : c.toNat * t.wt ≤ 4 * t.wt := Nat.mul_le_mul_right _ (by omega)
    have q2 : 4 * t.wt ≤ 4 * (4 ^ e * t.flat.length) := Nat.mul_le_mul_left _ h1
    have q3 : 4 * (4 ^ e * t.flat.length) = 4 ^ e * 4 * t.flat.length := by rw [← Nat.mul_assoc, Nat.mul_comm 4]
    omega
theorem turns_beats {f : Nat → LS → LS} {c : Nat} (hf : ∀ m s, (f m s).beats.length ≤ s.beats.length + c) (a : Int) : ∀ (b m : Nat) (s : LS), (turnsOf f a b m s).beats.length ≤ s.beats.length + b * c
  | 0, _, _ => by simp [turnsOf]
  | b + 1, m, s => by
    have h1 := turns_beats hf a b (onesOf m a s) (f (onesOf m a s) s)
    have h2 := hf (onesOf m a s) s
    simp only [turnsOf, Nat.add_mul]
    omega
theorem execM_beats (x : Cd) (m : Nat) (s : LS) : (execM x m s).beats = s.beats := by
  have : ((lanesOf m).foldl (exec1 x) s).beats = s.beats := by
    rw [exec_to]; exact execTo_beats x m s 8
  unfold execM
  dsimp only
  split <;> exact this
theorem run_beats (b : Blk) : ∀ (p m : Nat) (s : LS), (b.run p m s).beats.length ≤ s.beats.length + b.wt := by
  induction b with
  | nil => intro p m s; simp [Blk.run]
  | op x r ih =>
    intro p m s
    simp only [Blk.run]
    split
    · omega
    · have := ih (p + 1) m (execM x m (beat p m s))
      rw [execM_beats] at this
      simp [beat, Blk.wt] at *
      omega
  | iff a t r iht ihr =>
    intro p m s
    simp only [Blk.run]
    split
    · omega
    · have h1 := ihr (p + t.flat.length + 2) m (t.run (p + 1) (onesOf m a s) (beat p m s))
      have h2 := iht (p + 1) (onesOf m a s) (beat p m s)
      have h3 : (beat p m s).beats.length = s.beats.length + 1 := by simp [beat]
      simp only [Blk.wt]
      omega
  | ife a t e r iht ihe ihr =>
    intro p m s
    simp only [Blk.run]
    split
    · omega
    · have h1 := ihr (p + t.flat.length + e.flat.length + 3) m (e.run (p + t.flat.length + 2) (mdiff m (onesOf m a s)) (t.run (p + 1) (onesOf m a s) (beat p m s)))
      have h4 := ihe (p + t.flat.length + 2) (mdiff m (onesOf m a s)) (t.run (p + 1) (onesOf m a s) (beat p m s))
      have h2 := iht (p + 1) (onesOf m a s) (beat p m s)
      have h3 : (beat p m s).beats.length = s.beats.length + 1 := by simp [beat]
      simp only [Blk.wt]
      omega
  | loop a c t r iht ihr =>
    intro p m s
    simp only [Blk.run]
    split
    · omega
    · have h1 := ihr (p + t.flat.length + 2) m (turnsOf (fun m s => t.run (p + 1) m s) a c.toNat m (beat p m s))
      have h2 := turns_beats (f := fun m s => t.run (p + 1) m s) (fun m s => iht (p + 1) m s) a c.toNat m (beat p m s)
      have h3 : (beat p m s).beats.length = s.beats.length + 1 := by simp [beat]
      simp only [Blk.wt]
      omega
theorem run_zero (b : Blk) (p : Nat) (s : LS) : b.run p 0 s = s := by
  cases b <;> simp [Blk.run]
theorem turns_zero {f : Nat → LS → LS} (hf : ∀ s, f 0 s = s) (a : Int) : ∀ (b m : Nat) (s : LS), onesOf m a s = 0 → turnsOf f a b m s = s
  | 0, _, _, _ => rfl
  | b + 1, m, s, h => by
    simp only [turnsOf, h, hf]
    exact turns_zero hf a b 0 s (onesOf_zero a s)
theorem turns_succ (f : Nat → LS → LS) (a : Int) {b j : Nat} (h : j < b) (m : Nat) (s : LS) : turnsOf f a (b - j) m s = turnsOf f a (b - (j + 1)) (onesOf m a s) (f (onesOf m a s) s) := by
  obtain ⟨e, he⟩ : ∃ e, b - j = e + 1 := ⟨b - j - 1, by omega⟩
  rw [he, show b - (j + 1) = e by omega]
  rfl
theorem run_split {l : List Cd} {n : Nat} {p m : Nat} {s : LS} (h : opAt l p ≠ 10) : splitB l n (beat p m s).beats = splitB l n s.beats := by
  show splitB l n (s.beats ++ [(p, m)]) = _
  rw [splitB_snoc]
  have : (opAt l p == 10) = false := beq_eq_false_iff_ne.2 h
  simp [this]

def memOk (m : List Int) : Bool := m.all (fun v => inR v 0 255) && inR m.length 1 32
theorem memOk_iff {m : List Int} : memOk m = true ↔ wordsOk m ∧ 1 ≤ m.length ∧ m.length ≤ 32 := by
  simp only [memOk, Bool.and_eq_true, List.all_eq_true, inR_iff, wordsOk]
  constructor
  · rintro ⟨h1, h2⟩; exact ⟨h1, by omega, by omega⟩
  · rintro ⟨h1, h2⟩; exact ⟨h1, by omega, by omega⟩
def lockOk (l : List Cd) (n : Int) (m : List Int) : Bool := pv l && (inR n 1 8 && memOk m)
instance : Nonempty Blk := ⟨.nil⟩
/-- The tree of a valid program. -/
noncomputable def treeOf (l : List Cd) : Blk := Classical.epsilon fun b => b.ok 3 ∧ b.flat = l
theorem treeOf_spec {l : List Cd} (h : pv l = true) : (treeOf l).ok 3 ∧ (treeOf l).flat = l := Classical.epsilon_spec (pv_tree.1 h).2
/-- The state after a run of a valid program. -/
noncomputable def lockS (l : List Cd) (n : Nat) (m : List Int) : LS := runT (treeOf l) n m
noncomputable def traceOf (l : List Cd) (n : Int) (m : List Int) : List (Nat × Nat) := if lockOk l n m then (lockS l n.toNat m).beats else []
theorem trace_len {l : List Cd} (h : pv l = true) (n : Nat) (m : List Int) : (lockS l n m).beats.length ≤ 2560 := by
  obtain ⟨h1, h2⟩ := treeOf_spec h
  have h3 := wt_le _ 3 h1
  have h4 := run_beats (treeOf l) 0 (2 ^ n - 1) (LS.start n m)
  have h40 := (pv_iff.1 h).1
  rw [h2] at h3
  have : (LS.start n m).beats.length = 0 := rfl
  have e : lockS l n m = (treeOf l).run 0 (2 ^ n - 1) (LS.start n m) := rfl
  rw [e]
  omega

/-- Every step is at a place of the tree, under some lanes. -/
def beatsIn (lo hi n : Nat) (bs : List (Nat × Nat)) : Prop := ∀ q ∈ bs, lo ≤ q.1 ∧ q.1 < hi ∧ 0 < q.2 ∧ q.2 < 2 ^ n
theorem beatsIn.snoc {lo hi n : Nat} {bs : List (Nat × Nat)} (h : beatsIn lo hi n bs) {p m : Nat} (h1 : lo ≤ p) (h2 : p < hi) (h3 : 0 < m) (h4 : m < 2 ^ n) : beatsIn lo hi n (bs ++ [(p, m)]) := by
  intro q hq
  rcases List.mem_append.1 hq with hq | hq
  · exact h q hq
  · simp at hq; subst hq; exact ⟨h1, h2, h3, h4⟩
theorem turns_in {lo hi n : Nat} (hn : n ≤ 8) {f : Nat → LS → LS} (hf : ∀ m s, m < 2 ^ n → beatsIn lo hi n s.beats → beatsIn lo hi n (f m s).beats) (a : Int) : ∀ (b m : Nat) (s : LS), m < 2 ^ n → beatsIn lo hi n s.beats → beatsIn lo hi n (turnsOf f a b m s).beats
  | 0, _, _, _, h => h
  | b + 1, m, s, hm, h => turns_in hn hf a b _ _ (onesOf_lt hm hn a s) (hf _ _ (onesOf_lt hm hn a s) h)
theorem run_within {n : Nat} (hn : n ≤ 8) (b : Blk) : ∀ (lo hi p m : Nat) (s : LS), lo ≤ p → p + b.flat.length ≤ hi → m < 2 ^ n → beatsIn lo hi n s.beats → beatsIn lo hi n (b.run p m s).beats := by
  induction b with
  | nil => intro lo hi p m s _ _ _ h; exact h
  | op x r ih =>
    intro lo hi p m s h1 h2 hm h
    simp only [Blk.flat, List.length_cons] at h2
    simp only [Blk.run]
    split
    · exact h
    · refine ih lo hi (p + 1) m _ (by omega) (by omega) hm ?_
      rw [execM_beats]
      exact h.snoc h1 (by omega) (by omega) hm
  | iff a t r iht ihr =>
    intro lo hi p m s h1 h2 hm h
    simp only [Blk.flat, List.length_cons, List.length_append] at h2
    simp only [Blk.run]
    split
    · exact h
    · refine ihr lo hi _ m _ (by omega) (by omega) hm ?_
      exact iht lo hi _ _ _ (by omega) (by omega) (onesOf_lt hm hn a s) (h.snoc h1 (by omega) (by omega) hm)
  | ife a t e r iht ihe ihr =>
    intro lo hi p m s h1 h2 hm h
    simp only [Blk.flat, List.length_cons, List.length_append] at h2
    simp only [Blk.run]
    split
    · exact h
    · refine ihr lo hi _ m _ (by omega) (by omega) hm ?_
      refine ihe lo hi _ _ _ (by omega) (by omega) (mdiff_lt hm) ?_
      exact iht lo hi _ _ _ (by omega) (by omega) (onesOf_lt hm hn a s) (h.snoc h1 (by omega) (by omega) hm)
  | loop a c t r iht ihr =>
    intro lo hi p m s h1 h2 hm h
    simp only [Blk.flat, List.length_cons, List.length_append] at h2
    simp only [Blk.run]
    split
    · exact h
    · refine ihr lo hi _ m _ (by omega) (by omega) hm ?_
      exact turns_in hn (fun m s hm h => iht lo hi _ m s (by omega) (by omega) hm h) a _ m _ hm (h.snoc h1 (by omega) (by omega) hm)
theorem trace_in {l : List Cd} {n : Int} {m : List Int} : ∀ q ∈ traceOf l n m, q.1 < l.length ∧ 0 < q.2 ∧ q.2 < 2 ^ n.toNat := by
  intro q hq
  unfold traceOf at hq
  split at hq
  · rename_i h
    simp only [lockOk, Bool.and_eq_true] at h
    have hn := inR_iff.1 h.2.1
    obtain ⟨_, h2⟩ := treeOf_spec h.1
    have h3 := run_within (n := n.toNat) (by omega) (treeOf l) 0 l.length 0 (2 ^ n.toNat - 1) (LS.start n.toNat m) (by omega) (by rw [h2]; omega) (by have : 0 < 2 ^ n.toNat := Nat.pow_pos (by decide); omega) (fun q hq => by simp [LS.start] at hq)
    have := h3 q hq
    exact ⟨this.2.1, this.2.2.1, this.2.2.2⟩
  · simp at hq

/-! ### Counts, the hottest place, profiles -/

def Bd (s : LS) : Prop := s.accs.length ≤ 8 * s.beats.length ∧ s.phase ≤ s.beats.length
theorem exec1_acc (x : Cd) (s : LS) (k : Nat) : (exec1 x s k).accs.length ≤ s.accs.length + 1 := by
  simp only [exec1]
  split <;> simp
theorem execTo_acc (x : Cd) (m : Nat) (s : LS) : ∀ k, (execTo x m s k).accs.length ≤ s.accs.length + k
  | 0 => Nat.le_refl _
  | k + 1 => by
    have h := execTo_acc x m s k
    simp only [execTo]
    split
    · have := exec1_acc x (execTo x m s k) k; omega
    · omega
theorem execTo_phase (x : Cd) (m : Nat) (s : LS) : ∀ k, (execTo x m s k).phase = s.phase
  | 0 => rfl
  | k + 1 => by
    have h := execTo_phase x m s k
    simp only [execTo]
    split <;> exact h
theorem execM_acc (x : Cd) (m : Nat) (s : LS) : (execM x m s).accs.length ≤ s.accs.length + 8 := by
  have h := execTo_acc x m s 8
  rw [← exec_to] at h
  unfold execM
  dsimp only
  split <;> exact h
theorem execM_phase (x : Cd) (m : Nat) (s : LS) : (execM x m s).phase ≤ s.phase + 1 := by
  have h := execTo_phase x m s 8
  rw [← exec_to] at h
  unfold execM
  dsimp only
  split
  · simp only []; omega
  · omega
theorem Bd.beat {s : LS} (h : Bd s) (p m : Nat) : Bd (beat p m s) := by
  obtain ⟨h1, h2⟩ := h
  constructor
  · show s.accs.length ≤ 8 * (s.beats ++ [(p, m)]).length
    simp; omega
  · show s.phase ≤ (s.beats ++ [(p, m)]).length
    simp; omega
theorem Bd.op {s : LS} (h : Bd s) (x : Cd) (p m : Nat) : Bd (execM x m (Proofs.YtelbfeidpcojmaaGreat.beat p m s)) := by
  obtain ⟨h1, h2⟩ := h
  have a1 := execM_acc x m (Proofs.YtelbfeidpcojmaaGreat.beat p m s)
  have a2 := execM_phase x m (Proofs.YtelbfeidpcojmaaGreat.beat p m s)
  have a3 : (Proofs.YtelbfeidpcojmaaGreat.beat p m s).accs.length = s.accs.length := rfl
  have a4 : (Proofs.YtelbfeidpcojmaaGreat.beat p m s).phase = s.phase := rfl
  have a5 : (Proofs.YtelbfeidpcojmaaGreat.beat p m s).beats.length = s.beats.length + 1 := by simp [Proofs.YtelbfeidpcojmaaGreat.beat]
  unfold Bd
  rw [execM_beats]
  omega
theorem turns_bd {f : Nat → LS → LS} (hf : ∀ m s, Bd s → Bd (f m s)) (a : Int) : ∀ (b m : Nat) (s : LS), Bd s → Bd (turnsOf f a b m s)
  | 0, _, _, h => h
  | b + 1, m, s, h => turns_bd hf a b _ _ (hf _ _ h)
theorem run_bd (b : Blk) : ∀ (p m : Nat) (s : LS), Bd s → Bd (b.run p m s) := by
  induction b with
  | nil => intro p m s h; exact h
  | op x r ih =>
    intro p m s h
    simp only [Blk.run]
    split
    · exact h
    · exact ih _ _ _ (h.op x p m)
  | iff a t r iht ihr =>
    intro p m s h
    simp only [Blk.run]
    split
    · exact h
    · exact ihr _ _ _ (iht _ _ _ (h.beat p m))
  | ife a t e r iht ihe ihr =>
    intro p m s h
    simp only [Blk.run]
    split
    · exact h
    · exact ihr _ _ _ (ihe _ _ _ (iht _ _ _ (h.beat p m)))
  | loop a c t r iht ihr =>
    intro p m s h
    simp only [Blk.run]
    split
    · exact h
    · exact ihr _ _ _ (turns_bd (fun m s h => iht _ m s h) a _ m _ (h.beat p m))
theorem Bd.start (n : Nat) (mem : List Int) : Bd (LS.start n mem) := ⟨Nat.le_refl _, Nat.le_refl _⟩

/-! ### Lanes of a mask, one by one -/
def lanesTo (m k : Nat) : List Nat := (List.range k).filter fun j => m.testBit j
def lanesI (m : Nat) : List Int := (lanesOf m).map fun (k : Nat) => (k : Int)
theorem lanesTo_succ (m k : Nat) : lanesTo m (k + 1) = if m.testBit k then lanesTo m k ++ [k] else lanesTo m k := by
  unfold lanesTo
  rw [List.range_succ, List.filter_append]
  cases h : m.testBit k <;> simp [h]
theorem lanesTo_len (m : Nat) : ∀ k, (lanesTo m k).length ≤ k := fun k => by
  have := List.length_filter_le (fun j => m.testBit j) (List.range k)
  simpa [lanesTo] using this
theorem lanesOf_len (m : Nat) : (lanesOf m).length ≤ 8 := lanesTo_len m 8
theorem lanesOf_mem {m k : Nat} : k ∈ lanesOf m ↔ k < 8 ∧ m.testBit k = true := by simp [lanesOf]
theorem lanesI_get {m j k : Nat} (h : (lanesOf m)[j]? = some k) : (lanesI m)[j]? = some (k : Int) := by simp [lanesI, h]
theorem lanesOf_lt {m n : Nat} (hm : m < 2 ^ n) {k : Nat} (h : k ∈ lanesOf m) : k < n := by
  have h2 := (lanesOf_mem.1 h).2
  refine Nat.lt_of_not_le fun hge => ?_
  rw [testBit_high hm hge] at h2
  cases h2
/-- What the first j lanes of a mask have done. -/
def foldTo {α : Type} (f : α → Nat → α) (m : Nat) (s : α) (j : Nat) : α := ((lanesOf m).take j).foldl f s
theorem foldTo_succ {α : Type} (f : α → Nat → α) {m j k : Nat} (s : α) (h : (lanesOf m)[j]? = some k) : foldTo f m s (j + 1) = f (foldTo f m s j) k := by
  obtain ⟨hj, rfl⟩ := List.getElem?_eq_some_iff.1 h
  unfold foldTo
  rw [List.take_succ_eq_append_getElem hj, List.foldl_append]
  rfl
theorem foldTo_all {α : Type} (f : α → Nat → α) (m : Nat) (s : α) : foldTo f m s (lanesOf m).length = (lanesOf m).foldl f s := by
  unfold foldTo; rw [List.take_length]

def cN (c : List Int) (k : Nat) : Int := c.getD k 0
theorem cN_get {c : List Int} {k : Nat} (h : k < c.length) : c[k]? = some (cN c k) := by
  simp [cN, List.getD_eq_getElem?_getD, List.getElem?_eq_getElem h]
def Hot (c : List Int) (k : Nat) (b : Int) : Prop :=
  (b = -1 ∧ ∀ j, j < k → cN c j ≤ 0) ∨ (∃ i : Nat, b = (i : Int) ∧ i < k ∧ 0 < cN c i ∧ (∀ j, j < k → cN c j ≤ cN c i) ∧ ∀ j, j < i → cN c j < cN c i)
theorem Hot.eq {c : List Int} {k : Nat} {a b : Int} (ha : Hot c k a) (hb : Hot c k b) : a = b := by
  rcases ha with ⟨rfl, h1⟩ | ⟨i, rfl, h1, h2, h3, h4⟩ <;> rcases hb with ⟨rfl, k1⟩ | ⟨j, rfl, k1, k2, k3, k4⟩
  · rfl
  · have := h1 j k1; omega
  · have := k1 i h1; omega
  · have a1 := h3 j k1
    have a2 := k3 i h1
    rcases Nat.lt_trichotomy i j with h | h | h
    · have := k4 i h; omega
    · rw [h]
    · have := h4 j h; omega


theorem l4Opens_c (x : Cd) (w : World) :
    Calls Tryz.prog 125 #[x.val] w fun e w' => e = .returned (.bool (opB x)) ∧ Below w.heap.size w w' := by
  obtain ⟨o, a, b, c⟩ := x
  unfold Cd.val
  go_enter Tryz.func125, Tryz.ntmps125
  go_wp2
  all_goals go_ret
  all_goals refine ⟨retb ?_, (by repeat (first | exact Below.refl _ _ | assumption | refine Below.alloc ?_ (by simp <;> omega) _ | refine Below.setCell ?_ (by simp <;> omega) _ | refine Below.drew ?_))⟩
  all_goals (simp_all [opB])

theorem scanE_step {l : List Cd} {k : Nat} {x : Cd} (hx : l[k]? = some x) (d : Nat) (o : Int) : scanE (l.drop k) k d o =
    if opB x then scanE (l.drop (k + 1)) (k + 1) (d + 1) o
    else if x.op == 12 && d == 0 then scanE (l.drop (k + 1)) (k + 1) d k
    else if x.op == 14 && d == 0 then ((k : Int), o)
    else if x.op == 14 then scanE (l.drop (k + 1)) (k + 1) (d - 1) o
    else scanE (l.drop (k + 1)) (k + 1) d o := by
  rw [drop_get hx, scanE]

def E4Rel (w : World) (l : List Cd) (n : Nat) (kv dv ov : Value) (wr : World) : Prop :=
  ∃ (k d : Nat) (o : Int), k ≤ l.length ∧ kv = .int .i64 k ∧ dv = .int .i64 d ∧ ov = .int .i64 o ∧ d ≤ k ∧ Hid (endOf l n = scanE (l.drop k) k d o) ∧ Below w.heap.size w wr

set_option maxRecDepth 100000 in
set_option maxHeartbeats 4000000 in
theorem l4End_c (A : Option Addr) (c : Nat) (l : List Cd) (n : Nat) (w : World) (hA : RdC w w.heap.size A l) (hl : l.length ≤ 1000000000) (hn : n < l.length) :
    Calls Tryz.prog 100 #[.slice A l.length c, .int .i64 n] w fun e w' => e = .returned (.tuple #[.int .i64 (endOf l n).1, .int .i64 (endOf l n).2]) ∧ Below w.heap.size w w' := by
  go_enter Tryz.func100, Tryz.ntmps100
  go_wp2
  go_loopw [8, 6, 7] (fun kv dv ov wr => E4Rel w l n kv dv ov wr) (fun kv _ _ _ => l.length - (intOf kv).toNat)
  case atStart => exact ⟨n + 1, 0, -1, by omega, by go_num, rfl, rfl, by omega, rfl, Below.refl _ _⟩
  case round =>
    obtain ⟨k, d, o, hk, rfl, rfl, rfl, hd, HE, hb⟩ := hrel
    by_cases hlt : k < l.length
    · obtain ⟨b, off, x, rfl, hbB, hx, c0, c1, c2, c3⟩ := (hA.below hb).at_ hlt
      have HS := Lib.hid (scanE_step hx d o)
      have HX := Lib.hid hx
      clear hx
      go_wp2_with fail
      refine (l4Opens_c x _).mono ?_
      rintro e w1 ⟨rfl, hb1⟩
      replace c0 := cell_kept hb1 c0
      have hb2 := below_trans hb (Nat.le_refl _) hb1
      clear c1 c2 c3
      cases hop : opB x with
      | true =>
        have HO := Lib.hid hop
        clear hop
        go_wp2
        go_roundw
        case rel => exact ⟨k + 1, d + 1, o, by omega, by go_num, by go_num, rfl, by omega, Lib.hid (by rw [HE.out, HS.out, HO.out]; rfl), hb2⟩
        case measure => simp [intOf]; omega
      | false =>
        have HO := Lib.hid hop
        clear hop
        cases e12 : x.op == 12 with
        | true =>
          have h12 : x.op = 12 := beq_iff_eq.1 e12
          have e14 : (x.op == 14) = false := by rw [h12]; rfl
          have H12 := Lib.hid e12
          have H14 := Lib.hid e14
          clear h12
          by_cases hd0 : d = 0
          · subst hd0
            go_wp2
            go_roundw
            case rel => exact ⟨k + 1, 0, k, by omega, by go_num, rfl, rfl, by omega, Lib.hid (by rw [HE.out, HS.out, HO.out, H12.out]; rfl), hb2⟩
            case measure => simp [intOf]; omega
          · have ed : ((d : Int) == 0) = false := by rw [beq_eq_false_iff_ne]; omega
            have HD := Lib.hid (show (d == 0) = false by rw [beq_eq_false_iff_ne]; exact hd0)
            go_wp2
            go_roundw
            case rel => exact ⟨k + 1, d, o, by omega, by go_num, rfl, rfl, by omega, Lib.hid (by rw [HE.out, HS.out, HO.out, H12.out, HD.out, H14.out]; rfl), hb2⟩
            case measure => simp [intOf]; omega
        | false =>
          have H12 := Lib.hid e12
          cases e14 : x.op == 14 with
          | true =>
            have H14 := Lib.hid e14
            by_cases hd0 : d = 0
            · subst hd0
              go_wp2
              go_ret2
              have hf : endOf l n = ((k : Int), o) := by rw [HE.out, HS.out, HO.out, H12.out, H14.out]; rfl
              rw [hf]
              exact ⟨rfl, hb2⟩
            · have ed : ((d : Int) == 0) = false := by rw [beq_eq_false_iff_ne]; omega
              have HD := Lib.hid (show (d == 0) = false by rw [beq_eq_false_iff_ne]; exact hd0)
              go_wp2
              go_roundw
              case rel => exact ⟨k + 1, d - 1, o, by omega, by go_num, by (congr 1; first | done | omega), rfl, by omega, Lib.hid (by rw [HE.out, HS.out, HO.out, H12.out, H14.out, HD.out]; rfl), hb2⟩
              case measure => simp [intOf]; omega
          | false =>
            have H14 := Lib.hid e14
            go_wp2
            go_roundw
            case rel => exact ⟨k + 1, d, o, by omega, by go_num, rfl, rfl, by omega, Lib.hid (by rw [HE.out, HS.out, HO.out, H12.out, H14.out]; rfl), hb2⟩
            case measure => simp [intOf]; omega
    · obtain rfl : k = l.length := by omega
      go_wp2
      go_ret2
      have hf : endOf l n = (-1, o) := by rw [HE.out, List.drop_length]; rfl
      rw [hf]
      exact ⟨rfl, hb⟩

def A4Rel (w : World) (l : List Cd) (n : Nat) (kv dv : Value) (wr : World) : Prop :=
  ∃ (k d : Nat), k ≤ n ∧ kv = .int .i64 ((k : Int) - 1) ∧ dv = .int .i64 d ∧ d + k ≤ n ∧ Hid (aroundOf l n = scanA l k d) ∧ Below w.heap.size w wr

set_option maxRecDepth 100000 in
set_option maxHeartbeats 4000000 in
theorem l4Around_c (A : Option Addr) (c : Nat) (l : List Cd) (n : Nat) (w : World) (hA : RdC w w.heap.size A l) (hl : l.length ≤ 1000000000) (hn : n ≤ l.length) :
    Calls Tryz.prog 101 #[.slice A l.length c, .int .i64 n] w fun e w' => e = .returned (.int .i64 (aroundOf l n)) ∧ Below w.heap.size w w' := by
  go_enter Tryz.func101, Tryz.ntmps101
  go_wp2
  go_loopw [6, 5] (fun kv dv wr => A4Rel w l n kv dv wr) (fun kv _ _ => (intOf kv + 1).toNat)
  case atStart => exact ⟨n, 0, Nat.le_refl _, rfl, rfl, by omega, rfl, Below.refl _ _⟩
  case round =>
    obtain ⟨k, d, hk, rfl, rfl, hd, HE, hb⟩ := hrel
    cases k with
    | zero =>
      have h0 : ¬ (0 : Int) ≤ ((0 : Nat) : Int) - 1 := by omega
      go_wp2
      go_ret
      exact ⟨reti (by rw [HE.out]; simp [scanA]), hb⟩
    | succ k =>
      have hlt : k < l.length := by omega
      obtain ⟨b, off, x, rfl, hbB, hx, c0, c1, c2, c3⟩ := (hA.below hb).at_ hlt
      have ek : ((k + 1 : Nat) : Int) - 1 = (k : Int) := by omega
      rw [ek]
      have HS := Lib.hid (scanA_step l k d x hx)
      clear hx ek
      cases e14 : x.op == 14 with
      | true =>
        have hop : opB x = false := by have := beq_iff_eq.1 e14; simp [opB, this]
        have HO := Lib.hid hop
        have H14 := Lib.hid e14
        go_wp2_with fail
        refine (l4Opens_c x _).mono ?_
        rintro e w1 ⟨rfl, hb1⟩
        have hb2 := below_trans hb (Nat.le_refl _) hb1
        clear c0 c1 c2 c3
        go_wp2
        go_roundw
        case rel => exact ⟨k, d + 1, by omega, by go_num, by go_num, by omega, Lib.hid (by rw [HE.out, HS.out, HO.out, H14.out]; rfl), hb2⟩
        case measure => simp [intOf]
      | false =>
        have H14 := Lib.hid e14
        go_wp2_with fail
        refine (l4Opens_c x _).mono ?_
        rintro e w1 ⟨rfl, hb1⟩
        have hb2 := below_trans hb (Nat.le_refl _) hb1
        clear c0 c1 c2 c3
        cases hop : opB x with
        | false =>
          have HO := Lib.hid hop
          clear hop
          go_wp2
          go_roundw
          case rel => exact ⟨k, d, by omega, by go_num, rfl, by omega, Lib.hid (by rw [HE.out, HS.out, HO.out, H14.out]; rfl), hb2⟩
          case measure => simp [intOf]
        | true =>
          have HO := Lib.hid hop
          clear hop
          cases d with
          | zero =>
            go_wp2
            go_ret
            exact ⟨reti (by rw [HE.out, HS.out, HO.out]; rfl), hb2⟩
          | succ d =>
            have ed : (((d + 1 : Nat) : Int) == 0) = false := by rw [beq_eq_false_iff_ne]; omega
            have ed2 : (((d : Int) + 1) == 0) = false := by rw [beq_eq_false_iff_ne]; omega
            go_wp2
            go_roundw
            case rel => exact ⟨k, d, by omega, by go_num, by (congr 1; first | done | omega), by omega, Lib.hid (by rw [HE.out, HS.out, HO.out]; rfl), hb2⟩
            case measure => simp [intOf]

end Go.Proofs.YtelbfeidpcojmaaGreat
