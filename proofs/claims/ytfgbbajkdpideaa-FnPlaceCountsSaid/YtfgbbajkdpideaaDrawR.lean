/- l20Memory, l20Run: a memory and a run that are drawn. -/
import Derived.Test.YtfgbbajkdpideaaSame
namespace Go.Proofs.Ytfgbbajkdpideaa
open Go.RowKit
set_option linter.unusedVariables false
set_option linter.unusedSimpArgs false

/-- An own row of numbers that is being drawn. -/
def DIx (w0 : World) (B g K : Nat) (A : Option Addr) (n c : Nat) (w : World) : Prop :=
  ∃ l : List Int, OI w w0.heap.size A n c l ∧ RdS w B g K ∧ w0.grownBy w (some g) ∧ g < w0.heap.size

section
variable {w0 w w' : World} {B g K n c : Nat} {A : Option Addr}
theorem DIx.rd (h : DIx w0 B g K A n c w) : RdS w B g K := by
  obtain ⟨l, -, h, -⟩ := h
  exact h
theorem DIx.gr (h : DIx w0 B g K A n c w) : w0.grownBy w (some g) := by
  obtain ⟨l, -, -, h, -⟩ := h
  exact h
theorem DIx.pick (h : DIx w0 B g K A n c w) {K' : Nat} (hR : RdS w' B g K') (hg : w.grownBy w' (some g)) : DIx w0 B g K' A n c w' := by
  obtain ⟨l, h1, h2, h3, h4⟩ := h
  refine ⟨l, OR.kept h1 hg ?_, hR, h3.trans hg, h4⟩
  cases hb : Value.ownBlock (.slice A n c) with
  | none => exact .inl rfl
  | some k => exact .inr (fun e => by have := (OR.block h1 k hb).1; have := Option.some.inj e; omega)
theorem DIx.alloc (h : DIx w0 B g K A n c w) (o : Obj) : DIx w0 B g K A n c (w.alloc o) := by
  obtain ⟨l, h1, h2, h3, h4⟩ := h
  exact ⟨l, OR.alloc h1 o, h2.alloc o, h3.trans (World.grownBy_alloc _ _ _), h4⟩
theorem DIx.more (h : DIx w0 B g K A n c w) {K' : Nat} (hK : K ≤ K') : DIx w0 B g K' A n c w := by
  obtain ⟨l, h1, h2, h3, h4⟩ := h
  exact ⟨l, h1, h2.more hK, h3, h4⟩
theorem DIx.start (h : RdS w B g K) : DIx w B g K (some ⟨w.heap.size, 0, none⟩) 0 0 (w.alloc (.cells #[] 3)) :=
  ⟨[], OI.empty_ w _ (Nat.le_refl _), h.alloc _, World.grownBy_alloc _ _ _, h.lt⟩
theorem DIx.fresh (h : DIx w0 B g K A n c w) : DIx w0 B g K (some ⟨w.heap.size, 0, none⟩) 0 0 (w.alloc (.cells #[] 3)) := by
  obtain ⟨l, h1, h2, h3, h4⟩ := h
  exact ⟨[], OI.empty_ w _ h3.size, h2.alloc _, h3.trans (World.grownBy_alloc _ _ _), h4⟩
theorem zero_ints (m : Nat) : (zeroRow (.int .i64 0) m).toList = (List.replicate m (0 : Int)).map (Value.int .i64) := by
  rw [List.map_replicate]
  exact toList_madeCells_one _ _
theorem DIx.made (h : DIx w0 B g K A n c w) (m : Nat) (hm : m ≤ 1000) : DIx w0 B g K (some ⟨w.heap.size, 0, none⟩) m m (w.alloc (.cells (zeroRow (.int .i64 0) m) 3)) := by
  obtain ⟨l, h1, h2, h3, h4⟩ := h
  refine ⟨List.replicate m 0, ?_, h2.alloc _, h3.trans (World.grownBy_alloc _ _ _), h4⟩
  have := OR.lit w w0.heap.size 3 1 m (zeroRow (.int .i64 0) m) h3.size (by omega) (by rw [zeroRow_size]; omega)
  rw [zero_ints] at this
  exact this
theorem DIx.first (h : DIx w0 B g K A n c w) (hn : 0 < n) : ∃ gb x, A = some ⟨gb, 0, none⟩ ∧ w.cell? ⟨gb, 0, none⟩ = some (.int .i64 x) ∧ w.frozen? ⟨gb, 0, none⟩ = false ∧
    ∀ y : Int, DIx w0 B g K (some ⟨gb, 0, none⟩) n c (w.setCell ⟨gb, 0, none⟩ (.int .i64 y)) := by
  obtain ⟨l, h1, h2, h3, h4⟩ := h
  have hl : l.length = n := OI.len h1
  obtain ⟨gb, rfl, k1, k2, k3, k4, k5⟩ := OR.at_ h1 hn
  refine ⟨gb, l[0], rfl, k3 0 _ (by simp), k4 0, fun y => ⟨l.set 0 y, ?_, ?_, ?_, h4⟩⟩
  · have := k5 0 (.int .i64 y)
    rw [← List.map_set] at this
    exact this
  · exact h2.off (grown_cell1 w gb 0 _) (fun k e => by cases e; have := h2.base; exact ⟨by omega, by omega⟩)
  · exact grown_then h3 (grown_cell1 w gb 0 (.int .i64 y)) k1
theorem DIx.reads (h : DIx w0 B g K A n c w) : ∃ l : List Int, l.length = n ∧ RdI w w.heap.size A l := by
  obtain ⟨l, h1, -⟩ := h
  obtain rfl := OI.len h1
  exact ⟨l, rfl, OI.rd h1⟩
end
section
variable {ops : Array Oper} {Q : Exit → Act → World → Prop} {rest : List Oper} {o : Oper} {a : Act} {w0 w : World} {B g K n c : Nat} {A : Option Addr}
theorem app_di (D : DIx w0 B g K A n c w) (hgd : o.guard = none) (s x : Operand) (ho : o.op = .call { callee := .builtin .append, args := #[s, x], argTypes := #[27, 27] }) (hs : a.eval s = .slice A n c)
    (y : Int) (hx : a.eval x = .slice (some ⟨w.heap.size, 0, none⟩) 1 1) (hn : n ≤ 1000000000)
    (hK : ∀ A' c' w', DIx w0 B g K A' (n + 1) c' w' → wpList Try.prog ops Q rest (a.put o.dst (.slice A' (n + 1) c')) w') : wpList Try.prog ops Q (o :: rest) a (w.alloc (.cells #[.int .i64 y] 3)) := by
  obtain ⟨l, h1, h2, h3, h4⟩ := D.alloc (.cells #[.int .i64 y] 3)
  refine app_int hgd s x ho w0.heap.size A n c l h1 hs y w.heap.size 1 hx (by simp [go_sem]) (by omega) h3.size ?_
  intro A' c' w' ho' hg'
  refine hK A' c' w' ⟨_, ho', h2.off hg' (fun k e => ?_), ?_, h4⟩
  · have := (OR.block h1 k e).1
    have := h2.base
    omega
  · cases hb : Value.ownBlock (.slice A n c) with
    | none => rw [hb] at hg'; exact h3.trans (hg'.but _)
    | some k => rw [hb] at hg'; exact grown_then h3 hg' (OR.block h1 k hb).1
end

set_option maxRecDepth 100000 in
set_option maxHeartbeats 8000000 in
theorem l20Memory_c {w : World} {B g K : Nat} (h : RdS w B g K) (hK : K ≤ 100000000) (n : Nat) (hn : n ≤ 1000000000) :
    Calls Try.prog 50 #[.pointer (some ⟨g, 0, none⟩), .int .i64 n] w fun e w' => ∃ (A : Option Addr) (m c : Nat), e = .returned (.slice A m c) ∧ m ≤ 40 ∧ DIx w B g (K + 200) A m c w' := by
  have hgl := h.lt
  have D0 := DIx.start h
  have hmk : ∀ w : World, (Instr.makeSlice 27 (.int .i64 33) (.int .i64 33)).run Try.prog w = .ok (.slice (some ⟨w.heap.size, 0, none⟩) 33 33) (w.alloc (.cells (zeroRow (.int .i64 0) 33) 3)) := make_int 33 (by omega)
  go_enter Try.func50, Try.ntmps50
  go_wp2_with fail
  generalize w.alloc (.cells #[] 3) = w1 at *
  refine (pick_i D0.rd (by omega) _ (by decide) (by decide)).mono ?_
  rintro e w2 ⟨v1, rfl, hv1, R1, g1, -, -⟩
  have D1 := D0.pick R1 g1
  have hq1 : IntKind.i64.wrap (1 + (v1 : Int)) = 1 + (v1 : Int) := IntWalk.i64_in _ (by omega)
  have hgl2 : g < w2.heap.size := R1.lt
  clear D0 R1 g1
  go_wp2_with fail
  have D2 := D1.alloc (.cells #[.int .i64 8, .int .i64 16, .int .i64 (1 + (v1 : Int)), .int .i64 32] 3)
  have hN := heap_alloc_new w2 (.cells #[.int .i64 8, .int .i64 16, .int .i64 (1 + (v1 : Int)), .int .i64 32] 3)
  generalize w2.alloc (.cells #[.int .i64 8, .int .i64 16, .int .i64 (1 + (v1 : Int)), .int .i64 32] 3) = w3 at *
  refine (pick_i D2.rd (by omega) _ (by decide) (by decide)).mono ?_
  rintro e w4 ⟨v2, rfl, hv2, R2, g2, -, -⟩
  have D3 := D2.pick R2 g2
  have hN4 := (g2.block _ (lt_of_block hN) (fun e => absurd (Option.some.inj e) (by omega))).trans hN
  obtain ⟨t, ht0, ht32, hc⟩ : ∃ t : Nat, 1 ≤ t ∧ t ≤ 32 ∧ w4.cell? ⟨w2.heap.size, v2, none⟩ = some (.int .i64 t) := by
    have e : v2 = 0 ∨ v2 = 1 ∨ v2 = 2 ∨ v2 = 3 := by omega
    rcases e with rfl | rfl | rfl | rfl
    · exact ⟨8, by omega, by omega, cell_of_heap hN4 0⟩
    · exact ⟨16, by omega, by omega, cell_of_heap hN4 1⟩
    · refine ⟨1 + v1, by omega, by omega, ?_⟩
      have := cell_of_heap hN4 2
      simpa using this
    · exact ⟨32, by omega, by omega, cell_of_heap hN4 3⟩
  clear D1 D2 R2 g2 hN hN4
  go_wp2
  go_loopw [5, 6] (fun ov kv wr => ∃ (k : Nat) (A : Option Addr) (m c : Nat), kv = .int .i64 k ∧ ov = .slice A m c ∧ m + k ≤ 32 ∧ 1 ≤ m + k ∧ DIx w B g (K + 110 - 3 * k) A m c wr) (fun _ kv _ => (intOf kv).toNat)
  case atStart => exact ⟨t, _, 0, 0, rfl, rfl, by omega, by omega, D3.more (by omega)⟩
  case round =>
    clear D3 hc hq1
    obtain ⟨k, A, m, c, rfl, rfl, hm1, hm2, D⟩ := hrel
    by_cases hlt : 0 < k
    · have hkI : (0 : Int) < (k : Int) := by omega
      have hq : IntKind.i64.wrap ((k : Int) - 1) = ((k - 1 : Nat) : Int) := by rw [IntWalk.i64_in _ (by omega)]; omega
      go_wp2_with fail
      refine (pick_i D.rd (by omega) _ (by decide) (by decide)).mono ?_
      rintro e w5 ⟨v3, rfl, hv3, R3, g3, -, -⟩
      have D5 := D.pick R3 g3
      clear D R3 g3
      go_wp2_with fail
      refine (pick_i D5.rd (by omega) _ (by decide) (by decide)).mono ?_
      rintro e w6 ⟨v4, rfl, hv4, R4, g4, -, -⟩
      have D6 := D5.pick R4 g4
      have hgl6 : g < w6.heap.size := R4.lt
      clear D5 R4 g4
      go_wp2_with fail
      have D7 := D6.alloc (.cells #[.int .i64 0, .int .i64 v3, .int .i64 v4] 3)
      have hN := heap_alloc_new w6 (.cells #[.int .i64 0, .int .i64 v3, .int .i64 v4] 3)
      generalize w6.alloc (.cells #[.int .i64 0, .int .i64 v3, .int .i64 v4] 3) = w7 at *
      refine (pick_i D7.rd (by omega) _ (by decide) (by decide)).mono ?_
      rintro e w8 ⟨v5, rfl, hv5, R5, g5, -, -⟩
      have D8 := D7.pick R5 g5
      have hN8 := (g5.block _ (lt_of_block hN) (fun e => absurd (Option.some.inj e) (by omega))).trans hN
      obtain ⟨y, hy⟩ : ∃ y : Int, w8.cell? ⟨w6.heap.size, v5, none⟩ = some (.int .i64 y) := by
        have e : v5 = 0 ∨ v5 = 1 ∨ v5 = 2 := by omega
        rcases e with rfl | rfl | rfl
        · exact ⟨0, cell_of_heap hN8 0⟩
        · exact ⟨v3, cell_of_heap hN8 1⟩
        · exact ⟨v4, cell_of_heap hN8 2⟩
      clear D6 D7 R5 g5 hN hN8
      go_wp2_with (at_builtin; refine app_di D8 rfl _ _ rfl rfl y rfl (by omega) ?_)
      intro A' c' w9 D9
      clear D8
      go_wp2
      go_roundw
      case rel => exact ⟨k - 1, A', m + 1, c', by go_num, rfl, by omega, by omega, D9.more (by omega)⟩
      case measure => (simp [intOf] <;> omega)
    · obtain rfl : k = 0 := by omega
      go_wp2_with fail
      refine (odd_c D.rd (by omega) n (by omega)).mono ?_
      rintro e w5 ⟨v3, rfl, -, R3, g3, -⟩
      have D5 := D.pick R3 g3
      clear D R3 g3
      cases v3 with
      | false =>
        go_wp2
        go_ret
        exact ⟨_, m, _, rfl, by omega, D5.more (by omega)⟩
      | true =>
        go_wp2_with fail
        refine (pick_i D5.rd (by omega) _ (by decide) (by decide)).mono ?_
        rintro e w6 ⟨v4, rfl, hv4, R4, g4, -, -⟩
        have D6 := D5.pick R4 g4
        have hgl6 : g < w6.heap.size := R4.lt
        clear D5 R4 g4
        have hv : v4 = 0 ∨ v4 = 1 ∨ v4 = 2 := by omega
        clear hv4
        rcases hv with rfl | rfl | rfl
        · have D7 := D6.fresh
          go_wp2
          go_ret
          exact ⟨_, 0, _, rfl, by omega, D7.more (by omega)⟩
        · have D7 := D6.alloc (.cells #[.int .i64 (-1), .int .i64 256] 3)
          have hN := heap_alloc_new w6 (.cells #[.int .i64 (-1), .int .i64 256] 3)
          go_wp2_with fail
          generalize w6.alloc (.cells #[.int .i64 (-1), .int .i64 256] 3) = w7 at *
          refine (pick_i D7.rd (by omega) _ (by decide) (by decide)).mono ?_
          rintro e w8 ⟨v6, rfl, hv6, R6, g6, -, -⟩
          have D8 := D7.pick R6 g6
          have hN8 := (g6.block _ (lt_of_block hN) (fun e => absurd (Option.some.inj e) (by omega))).trans hN
          obtain ⟨y, hy⟩ : ∃ y : Int, w8.cell? ⟨w6.heap.size, v6, none⟩ = some (.int .i64 y) := by
            have e : v6 = 0 ∨ v6 = 1 := by omega
            rcases e with rfl | rfl
            · exact ⟨-1, cell_of_heap hN8 0⟩
            · exact ⟨256, cell_of_heap hN8 1⟩
          obtain ⟨gb, x0, rfl, c0, f0, hset⟩ := D8.first (by omega)
          have D9 := hset y
          have hm0 : (0 : Int) < (m : Int) := by omega
          clear D6 D7 D8 R6 g6 hN hN8 hset
          go_wp2
          go_ret
          exact ⟨_, m, _, rfl, by omega, D9.more (by omega)⟩
        · have D7 := D6.made 33 (by omega)
          go_wp2
          go_ret
          exact ⟨_, 33, _, rfl, by omega, D7.more (by omega)⟩

def DRun (w : World) (B g K : Nat) (e : Ending) (w' : World) : Prop :=
  ∃ (A : Option Addr) (n c : Nat) (lanes : Int) (Am : Option Addr) (m cm : Nat), e = .returned (.tuple #[.slice A n c, .int .i64 lanes, .slice Am m cm]) ∧ n ≤ 200000 ∧ m ≤ 40 ∧ 0 ≤ lanes ∧ lanes ≤ 9 ∧
    DSx w B g K A n c w' ∧ ∃ l : List Int, l.length = m ∧ RdI w' w'.heap.size Am l

set_option maxRecDepth 100000 in
set_option maxHeartbeats 8000000 in
theorem l20Run_c {w : World} {B g K : Nat} (h : RdS w B g K) (hK : K ≤ 1000000) (n : Nat) (hn : n ≤ 1000) :
    Calls Try.prog 29 #[.pointer (some ⟨g, 0, none⟩), .int .i64 n] w (DRun w B g (K + 600000)) := by
  go_enter Try.func29, Try.ntmps29
  go_wp2_with fail
  refine (l20Program_c h (by omega) n (by omega)).mono ?_
  rintro e w2 ⟨A2, n2, c2, rfl, hn2, D2⟩
  have hgl := h.lt
  clear h
  go_wp2_with fail
  refine (pick_i D2.rd (by omega) _ (by decide) (by decide)).mono ?_
  rintro e w3 ⟨v1, rfl, hv1, R3, g3, -, -⟩
  have D3 := D2.pick R3 g3
  have hq1 : IntKind.i64.wrap (1 + (v1 : Int)) = 1 + (v1 : Int) := IntWalk.i64_in _ (by omega)
  clear D2 R3 g3
  go_wp2_with fail
  refine (odd_c D3.rd (by omega) 9 (by omega)).mono ?_
  rintro e w4 ⟨v2, rfl, -, R4, g4, -⟩
  have D4 := D3.pick R4 g4
  clear D3 R4 g4
  cases v2 with
  | false =>
    go_wp2_with fail
    refine (odd_c D4.rd (by omega) n (by omega)).mono ?_
    rintro e w5 ⟨v3, rfl, -, R5, g5, -⟩
    have D5 := D4.pick R5 g5
    have hgl5 : g < w5.heap.size := R5.lt
    clear D4 R5 g5
    cases v3 with
    | false =>
      go_wp2_with fail
      refine (l20Memory_c D5.rd (by omega) n (by omega)).mono ?_
      rintro e w9 ⟨Am, m, cm, rfl, hm, DM⟩
      have D9 := D5.pick DM.rd DM.gr
      obtain ⟨l, hl, hrd⟩ := DM.reads
      clear DM D5
      go_wp2
      go_ret3
      exact ⟨A2, n2, c2, _, Am, m, cm, rfl, hn2, hm, by omega, by omega, D9.more (by omega), l, hl, hrd⟩
    | true =>
      have D6 := D5.alloc (.cells #[.int .i64 0, .int .i64 9] 3)
      have hN := heap_alloc_new w5 (.cells #[.int .i64 0, .int .i64 9] 3)
      go_wp2_with fail
      generalize w5.alloc (.cells #[.int .i64 0, .int .i64 9] 3) = w6 at *
      refine (pick_i D6.rd (by omega) _ (by decide) (by decide)).mono ?_
      rintro e w7 ⟨v6, rfl, hv6, R7, g7, -, -⟩
      have D7 := D6.pick R7 g7
      have hN7 := (g7.block _ (lt_of_block hN) (fun e => absurd (Option.some.inj e) (by omega))).trans hN
      obtain ⟨y, hy0, hy9, hy⟩ : ∃ y : Int, 0 ≤ y ∧ y ≤ 9 ∧ w7.cell? ⟨w5.heap.size, v6, none⟩ = some (.int .i64 y) := by
        have e : v6 = 0 ∨ v6 = 1 := by omega
        rcases e with rfl | rfl
        · exact ⟨0, by omega, by omega, cell_of_heap hN7 0⟩
        · exact ⟨9, by omega, by omega, cell_of_heap hN7 1⟩
      clear D5 D6 R7 g7 hN hN7
      go_wp2_with fail
      refine (l20Memory_c D7.rd (by omega) n (by omega)).mono ?_
      rintro e w9 ⟨Am, m, cm, rfl, hm, DM⟩
      have D9 := D7.pick DM.rd DM.gr
      obtain ⟨l, hl, hrd⟩ := DM.reads
      clear DM D7
      go_wp2
      go_ret3
      exact ⟨A2, n2, c2, _, Am, m, cm, rfl, hn2, hm, by omega, by omega, D9.more (by omega), l, hl, hrd⟩
  | true =>
    go_wp2_with fail
    refine (odd_c D4.rd (by omega) n (by omega)).mono ?_
    rintro e w5 ⟨v3, rfl, -, R5, g5, -⟩
    have D5 := D4.pick R5 g5
    have hgl5 : g < w5.heap.size := R5.lt
    clear D4 R5 g5
    cases v3 with
    | false =>
      go_wp2_with fail
      refine (l20Memory_c D5.rd (by omega) n (by omega)).mono ?_
      rintro e w9 ⟨Am, m, cm, rfl, hm, DM⟩
      have D9 := D5.pick DM.rd DM.gr
      obtain ⟨l, hl, hrd⟩ := DM.reads
      clear DM D5
      go_wp2
      go_ret3
      exact ⟨A2, n2, c2, _, Am, m, cm, rfl, hn2, hm, by omega, by omega, D9.more (by omega), l, hl, hrd⟩
    | true =>
      have D6 := D5.alloc (.cells #[.int .i64 0, .int .i64 9] 3)
      have hN := heap_alloc_new w5 (.cells #[.int .i64 0, .int .i64 9] 3)
      go_wp2_with fail
      generalize w5.alloc (.cells #[.int .i64 0, .int .i64 9] 3) = w6 at *
      refine (pick_i D6.rd (by omega) _ (by decide) (by decide)).mono ?_
      rintro e w7 ⟨v6, rfl, hv6, R7, g7, -, -⟩
      have D7 := D6.pick R7 g7
      have hN7 := (g7.block _ (lt_of_block hN) (fun e => absurd (Option.some.inj e) (by omega))).trans hN
      obtain ⟨y, hy0, hy9, hy⟩ : ∃ y : Int, 0 ≤ y ∧ y ≤ 9 ∧ w7.cell? ⟨w5.heap.size, v6, none⟩ = some (.int .i64 y) := by
        have e : v6 = 0 ∨ v6 = 1 := by omega
        rcases e with rfl | rfl
        · exact ⟨0, by omega, by omega, cell_of_heap hN7 0⟩
        · exact ⟨9, by omega, by omega, cell_of_heap hN7 1⟩
      clear D5 D6 R7 g7 hN hN7
      go_wp2_with fail
      refine (l20Memory_c D7.rd (by omega) n (by omega)).mono ?_
      rintro e w9 ⟨Am, m, cm, rfl, hm, DM⟩
      have D9 := D7.pick DM.rd DM.gr
      obtain ⟨l, hl, hrd⟩ := DM.reads
      clear DM D7
      go_wp2
      go_ret3
      exact ⟨A2, n2, c2, _, Am, m, cm, rfl, hn2, hm, by omega, by omega, D9.more (by omega), l, hl, hrd⟩
end Go.Proofs.Ytfgbbajkdpideaa
