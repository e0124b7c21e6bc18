/- Part 22 of what the claim needs. -/
import Derived.Test.YtelbfeidpcojmaaRg2
import Derived.Test.YtelbfeidpcojmaaRg4
import Derived.Test.YtelbfeidpcojmaaRg15
import Derived.Test.YtelbfeidpcojmaaRg17
import Derived.Test.YtelbfeidpcojmaaRg19
import Derived.Test.YtelbfeidpcojmaaRg21
namespace Go.Proofs.Ytelbfeidpcojmaa
open Go.RowKit
set_option linter.unusedVariables false
set_option linter.unusedSimpArgs false

/-- An own row of numbers that is being drawn. -/
def DIx (w0 : World) (B g K : Nat) (A : Option Addr) (n c : Nat) (w : World) : Prop :=
  ∃ l : List Int, OI w w0.heap.size A n c l ∧ RdS w B g K ∧ w0.grownBy w (some g) ∧ g < w0.heap.size

section
variable {w0 w w' : World} {B g K n c : Nat} {A : Option Addr}
theorem DIx.rd (h : DIx w0 B g K A n c w) : RdS w B g K := by
  obtain ⟨l, -, h, -⟩ := h
  exact h
theorem DIx.gr (h : DIx w0 B g K A n c w) : w0.grownBy w (some g) := by
  obtain ⟨l, -, -, h, -⟩ := h
  exact h
theorem DIx.pick (h : DIx w0 B g K A n c w) {K' : Nat} (hR : RdS w' B g K') (hg : w.grownBy w' (some g)) : DIx w0 B g K' A n c w' := by
  obtain ⟨l, h1, h2, h3, h4⟩ := h
  refine ⟨l, OR.kept h1 hg ?_, hR, h3.trans hg, h4⟩
  cases hb : Value.ownBlock (.slice A n c) with
  | none => exact .inl rfl
  | some k => exact .inr (fun e => by have := (OR.block h1 k hb).1; have := Option.some.inj e; omega)
theorem DIx.alloc (h : DIx w0 B g K A n c w) (o : Obj) : DIx w0 B g K A n c (w.alloc o) := by
  obtain ⟨l, h1, h2, h3, h4⟩ := h
  exact ⟨l, OR.alloc h1 o, h2.alloc o, h3.trans (World.grownBy_alloc _ _ _), h4⟩
theorem DIx.more (h : DIx w0 B g K A n c w) {K' : Nat} (hK : K ≤ K') : DIx w0 B g K' A n c w := by
  obtain ⟨l, h1, h2, h3, h4⟩ := h
  exact ⟨l, h1, h2.more hK, h3, h4⟩
theorem DIx.start (h : RdS w B g K) : DIx w B g K (some ⟨w.heap.size, 0, none⟩) 0 0 (w.alloc (.cells #[] 3)) :=
  ⟨[], OI.empty_ w _ (Nat.le_refl _), h.alloc _, World.grownBy_alloc _ _ _, h.lt⟩
theorem DIx.fresh (h : DIx w0 B g K A n c w) : DIx w0 B g K (some ⟨w.heap.size, 0, none⟩) 0 0 (w.alloc (.cells #[] 3)) := by
  obtain ⟨l, h1, h2, h3, h4⟩ := h
  exact ⟨[], OI.empty_ w _ h3.size, h2.alloc _, h3.trans (World.grownBy_alloc _ _ _), h4⟩
theorem zero_ints (m : Nat) : (zeroRow (.int .i64 0) m).toList = (List.replicate m (0 : Int)).map (Value.int .i64) := by
  rw [List.map_replicate]
  exact toList_madeCells_one _ _
theorem DIx.made (h : DIx w0 B g K A n c w) (m : Nat) (hm : m ≤ 1000) : DIx w0 B g K (some ⟨w.heap.size, 0, none⟩) m m (w.alloc (.cells (zeroRow (.int .i64 0) m) 3)) := by
  obtain ⟨l, h1, h2, h3, h4⟩ := h
  refine ⟨List.replicate m 0, ?_, h2.alloc _, h3.trans (World.grownBy_alloc _ _ _), h4⟩
  have := OR.lit w w0.heap.size 3 1 m (zeroRow (.int .i64 0) m) h3.size (by omega) (by rw [zeroRow_size]; omega)
  rw [zero_ints] at this
  exact this
theorem DIx.first (h : DIx w0 B g K A n c w) (hn : 0 < n) : ∃ gb x, A = some ⟨gb, 0, none⟩ ∧ w.cell? ⟨gb, 0, none⟩ = some (.int .i64 x) ∧ w.frozen? ⟨gb, 0, none⟩ = false ∧
    ∀ y : Int, DIx w0 B g K (some ⟨gb, 0, none⟩) n c (w.setCell ⟨gb, 0, none⟩ (.int .i64 y)) := by
  obtain ⟨l, h1, h2, h3, h4⟩ := h
  have hl : l.length = n := OI.len h1
  obtain ⟨gb, rfl, k1, k2, k3, k4, k5⟩ := OR.at_ h1 hn
  refine ⟨gb, l[0], rfl, k3 0 _ (by simp), k4 0, fun y => ⟨l.set 0 y, ?_, ?_, ?_, h4⟩⟩
  · have := k5 0 (.int .i64 y)
    rw [← List.map_set] at this
    exact this
  · exact h2.off (grown_cell1 w gb 0 _) (fun k e => by cases e; have := h2.base; exact ⟨by omega, by omega⟩)
  · exact grown_then h3 (grown_cell1 w gb 0 (.int .i64 y)) k1
theorem DIx.reads (h : DIx w0 B g K A n c w) : ∃ l : List Int, l.length = n ∧ RdI w w.heap.size A l := by
  obtain ⟨l, h1, -⟩ := h
  obtain rfl := OI.len h1
  exact ⟨l, rfl, OI.rd h1⟩
end
section
variable {ops : Array Oper} {Q : Exit → Act → World → Prop} {rest : List Oper} {o : Oper} {a : Act} {w0 w : World} {B g K n c : Nat} {A : Option Addr}
theorem app_di (D : DIx w0 B g K A n c w) (hgd : o.guard = none) (s x : Operand) (ho : o.op = .call { callee := .builtin .append, args := #[s, x], argTypes := #[23, 23] }) (hs : a.eval s = .slice A n c)
    (y : Int) (hx : a.eval x = .slice (some ⟨w.heap.size, 0, none⟩) 1 1) (hn : n ≤ 1000000000)
    (hK : ∀ A' c' w', DIx w0 B g K A' (n + 1) c' w' → wpList Try.prog ops Q rest (a.put o.dst (.slice A' (n + 1) c')) w') : wpList Try.prog ops Q (o :: rest) a (w.alloc (.cells #[.int .i64 y] 3)) := by
  obtain ⟨l, h1, h2, h3, h4⟩ := D.alloc (.cells #[.int .i64 y] 3)
  refine app_int hgd s x ho w0.heap.size A n c l h1 hs y w.heap.size 1 hx (by simp [go_sem]) (by omega) h3.size ?_
  intro A' c' w' ho' hg'
  refine hK A' c' w' ⟨_, ho', h2.off hg' (fun k e => ?_), ?_, h4⟩
  · have := (OR.block h1 k e).1
    have := h2.base
    omega
  · cases hb : Value.ownBlock (.slice A n c) with
    | none => rw [hb] at hg'; exact h3.trans (hg'.but _)
    | some k => rw [hb] at hg'; exact grown_then h3 hg' (OR.block h1 k hb).1
end

set_option maxRecDepth 100000 in
set_option maxHeartbeats 8000000 in
theorem l20Memory_c {w : World} {B g K : Nat} (h : RdS w B g K) (hK : K ≤ 100000000) (n : Nat) (hn : n ≤ 1000000000) :
    Calls Try.prog 100 #[.pointer (some ⟨g, 0, none⟩), .int .i64 n] w fun e w' => ∃ (A : Option Addr) (m c : Nat), e = .returned (.slice A m c) ∧ m ≤ 40 ∧ DIx w B g (K + 200) A m c w' := by
  have hgl := h.lt
  have D0 := DIx.start h
  have hmk : ∀ w : World, (Instr.makeSlice 23 (.int .i64 33) (.int .i64 33)).run Try.prog w = .ok (.slice (some ⟨w.heap.size, 0, none⟩) 33 33) (w.alloc (.cells (zeroRow (.int .i64 0) 33) 3)) := make_int 33 (by omega)
  go_enter Try.func100, Try.ntmps100
  go_wp2_with fail
  generalize w.alloc (.cells #[] 3) = w1 at *
  refine (pick_i D0.rd (by omega) _ (by decide) (by decide)).mono ?_
  rintro e w2 ⟨v1, rfl, hv1, R1, g1, -, -⟩
  have D1 := D0.pick R1 g1
  have hq1 : IntKind.i64.wrap (1 + (v1 : Int)) = 1 + (v1 : Int) := IntWalk.i64_in _ (by omega)
  have hgl2 : g < w2.heap.size := R1.lt
  clear D0 R1 g1
  go_wp2_with fail
  have D2 := D1.alloc (.cells #[.int .i64 8, .int .i64 16, .int .i64 (1 + (v1 : Int)), .int .i64 32] 3)
  have hN := heap_alloc_new w2 (.cells #[.int .i64 8, .int .i64 16, .int .i64 (1 + (v1 : Int)), .int .i64 32] 3)
  generalize w2.alloc (.cells #[.int .i64 8, .int .i64 16, .int .i64 (1 + (v1 : Int)), .int .i64 32] 3) = w3 at *
  refine (pick_i D2.rd (by omega) _ (by decide) (by decide)).mono ?_
  rintro e w4 ⟨v2, rfl, hv2, R2, g2, -, -⟩
  have D3 := D2.pick R2 g2
  have hN4 := (g2.block _ (lt_of_block hN) (fun e => absurd (Option.some.inj e) (by omega))).trans hN
  obtain ⟨t, ht0, ht32, hc⟩ : ∃ t : Nat, 1 ≤ t ∧ t ≤ 32 ∧ w4.cell? ⟨w2.heap.size, v2, none⟩ = some (.int .i64 t) := by
    have e : v2 = 0 ∨ v2 = 1 ∨ v2 = 2 ∨ v2 = 3 := by omega
    rcases e with rfl | rfl | rfl | rfl
    · exact ⟨8, by omega, by omega, cell_of_heap hN4 0⟩
    · exact ⟨16, by omega, by omega, cell_of_heap hN4 1⟩
    · refine ⟨1 + v1, by omega, by omega, ?_⟩
      have := cell_of_heap hN4 2
      simpa using this
    · exact ⟨32, by omega, by omega, cell_of_heap hN4 3⟩
  clear D1 D2 R2 g2 hN hN4
  go_wp2
  go_loopw [5, 6] (fun ov kv wr => ∃ (k : Nat) (A : Option Addr) (m c : Nat), kv = .int .i64 k ∧ ov = .slice A m c ∧ m + k ≤ 32 ∧ 1 ≤ m + k ∧ DIx w B g (K + 110 - 3 * k) A m c wr) (fun _ kv _ => (intOf kv).toNat)
  case atStart => exact ⟨t, _, 0, 0, rfl, rfl, by omega, by omega, D3.more (by omega)⟩
  case round =>
    clear D3 hc hq1
    obtain ⟨k, A, m, c, rfl, rfl, hm1, hm2, D⟩ := hrel
    by_cases hlt : 0 < k
    · have hkI : (0 : Int) < (k : Int) := by omega
      have hq : IntKind.i64.wrap ((k : Int) - 1) = ((k - 1 : Nat) : Int) := by rw [IntWalk.i64_in _ (by omega)]; omega
      go_wp2_with fail
      refine (pick_i D.rd (by omega) _ (by decide) (by decide)).mono ?_
      rintro e w5 ⟨v3, rfl, hv3, R3, g3, -, -⟩
      have D5 := D.pick R3 g3
      clear D R3 g3
      go_wp2_with fail
      refine (pick_i D5.rd (by omega) _ (by decide) (by decide)).mono ?_
      rintro e w6 ⟨v4, rfl, hv4, R4, g4, -, -⟩
      have D6 := D5.pick R4 g4
      have hgl6 : g < w6.heap.size := R4.lt
      clear D5 R4 g4
      go_wp2_with fail
      have D7 := D6.alloc (.cells #[.int .i64 0, .int .i64 v3, .int .i64 v4] 3)
      have hN := heap_alloc_new w6 (.cells #[.int .i64 0, .int .i64 v3, .int .i64 v4] 3)
      generalize w6.alloc (.cells #[.int .i64 0, .int .i64 v3, .int .i64 v4] 3) = w7 at *
      refine (pick_i D7.rd (by omega) _ (by decide) (by decide)).mono ?_
      rintro e w8 ⟨v5, rfl, hv5, R5, g5, -, -⟩
      have D8 := D7.pick R5 g5
      have hN8 := (g5.block _ (lt_of_block hN) (fun e => absurd (Option.some.inj e) (by omega))).trans hN
      obtain ⟨y, hy⟩ : ∃ y : Int, w8.cell? ⟨w6.heap.size, v5, none⟩ = some (.int .i64 y) := by
        have e : v5 = 0 ∨ v5 = 1 ∨ v5 = 2 := by omega
        rcases e with rfl | rfl | rfl
        · exact ⟨0, cell_of_heap hN8 0⟩
        · exact ⟨v3, cell_of_heap hN8 1⟩
        · exact ⟨v4, cell_of_heap hN8 2⟩
      clear D6 D7 R5 g5 hN hN8
      go_wp2_with (at_builtin; refine app_di D8 rfl _ _ rfl rfl y rfl (by omega) ?_)
      intro A' c' w9 D9
      clear D8
      go_wp2
      go_roundw
      case rel => exact ⟨k - 1, A', m + 1, c', by go_num, rfl, by omega, by omega, D9.more (by omega)⟩
      case measure => (simp [intOf] <;> omega)
    · obtain rfl : k = 0 := by omega
      go_wp2_with fail
      refine (odd_c D.rd (by omega) n (by omega)).mono ?_
      rintro e w5 ⟨v3, rfl, -, R3, g3, -⟩
      have D5 := D.pick R3 g3
      clear D R3 g3
      cases v3 with
      | false =>
        go_wp2
        go_ret
        exact ⟨_, m, _, rfl, by omega, D5.more (by omega)⟩
      | true =>
        go_wp2_with fail
        refine (pick_i D5.rd (by omega) _ (by decide) (by decide)).mono ?_
        rintro e w6 ⟨v4, rfl, hv4, R4, g4, -, -⟩
        have D6 := D5.pick R4 g4
        have hgl6 : g < w6.heap.size := R4.lt
        clear D5 R4 g4
        have hv : v4 = 0 ∨ v4 = 1 ∨ v4 = 2 := by omega
        clear hv4
        rcases hv with rfl | rfl | rfl
        · have D7 := D6.fresh
          go_wp2
          go_ret
          exact ⟨_, 0, _, rfl, by omega, D7.more (by omega)⟩
        · have D7 := D6.alloc (.cells #[.int .i64 (-1), .int .i64 256] 3)
          have hN := heap_alloc_new w6 (.cells #[.int .i64 (-1), .int .i64 256] 3)
          go_wp2_with fail
          generalize w6.alloc (.cells #[.int .i64 (-1), .int .i64 256] 3) = w7 at *
          refine (pick_i D7.rd (by omega) _ (by decide) (by decide)).mono ?_
          rintro e w8 ⟨v6, rfl, hv6, R6, g6, -, -⟩
          have D8 := D7.pick R6 g6
          have hN8 := (g6.block _ (lt_of_block hN) (fun e => absurd (Option.some.inj e) (by omega))).trans hN
          obtain ⟨y, hy⟩ : ∃ y : Int, w8.cell? ⟨w6.heap.size, v6, none⟩ = some (.int .i64 y) := by
            have e : v6 = 0 ∨ v6 = 1 := by omega
            rcases e with rfl | rfl
            · exact ⟨-1, cell_of_heap hN8 0⟩
            · exact ⟨256, cell_of_heap hN8 1⟩
          obtain ⟨gb, x0, rfl, c0, f0, hset⟩ := D8.first (by omega)
          have D9 := hset y
          have hm0 : (0 : Int) < (m : Int) := by omega
          clear D6 D7 D8 R6 g6 hN hN8 hset
          go_wp2
          go_ret
          exact ⟨_, m, _, rfl, by omega, D9.more (by omega)⟩
        · have D7 := D6.made 33 (by omega)
          go_wp2
          go_ret
          exact ⟨_, 33, _, rfl, by omega, D7.more (by omega)⟩


section
variable {w0 w w' : World} {B g K n c : Nat} {A : Option Addr}
theorem DIx.some_ (h : DIx w0 B g K A n c w) (hn : 0 < n) : ∃ ad, A = some ad := by
  obtain ⟨gb, x, rfl, -⟩ := h.first hn
  exact ⟨_, rfl⟩
theorem DIx.take (h : DIx w0 B g K A n c w) {m : Nat} (hm : m ≤ n) : DIx w0 B g K A m c w := by
  obtain ⟨l, h1, h2, h3, h4⟩ := h
  refine ⟨l.take m, ?_, h2, h3, h4⟩
  have := OR.take_ h1 hm
  rw [Nat.mul_one, ← List.map_take] at this
  exact this
theorem DIx.capR (h : DIx w0 B g K A n c w) : n ≤ c := by
  obtain ⟨l, h1, -⟩ := h
  exact OR.cap_ h1
end
section
variable {ops : Array Oper} {Q : Exit → Act → World → Prop} {rest : List Oper} {o : Oper} {a : Act} {w0 w : World} {B g K n c : Nat} {A : Option Addr}
/-- append of an own row to a new literal. -/
theorem pre_di (D : DIx w0 B g K A n c w) (hA : ∃ ad, A = some ad) (hgd : o.guard = none) (s x : Operand) (ho : o.op = .call { callee := .builtin .append, args := #[s, x], argTypes := #[23, 23] })
    (y : Int) (hs : a.eval s = .slice (some ⟨w.heap.size, 0, none⟩) 1 1) (hx : a.eval x = .slice A n c) (hn : n ≤ 1000000)
    (hK : ∀ A' c' w', DIx w0 B g K A' (1 + n) c' w' → wpList Try.prog ops Q rest (a.put o.dst (.slice A' (1 + n) c')) w') : wpList Try.prog ops Q (o :: rest) a (w.alloc (.cells #[.int .i64 y] 3)) := by
  obtain ⟨l, h1, h2, h3, h4⟩ := D.alloc (.cells #[.int .i64 y] 3)
  obtain ⟨l0, k1, k2, k3, k4⟩ := D
  obtain ⟨ad, rfl⟩ := hA
  have hl : OR (w.alloc (.cells #[.int .i64 y] 3)) w0.heap.size 3 1 (some ⟨w.heap.size, 0, none⟩) 1 1 (#[Value.int .i64 y]).toList := OR.lit w w0.heap.size 3 1 1 _ k3.size (by omega) rfl
  refine app_rd 23 3 _ 1 8 Try.underlying23 infoInt rfl (by decide) (by decide) hgd s x ho w0.heap.size _ 1 1 _ hl hs _ ad n c (l.map (.int .i64)) hx (OR.reads h1) (ints_one l) (by omega) h3.size ?_
  intro A' c' w' ho' hg'
  refine hK A' c' w' ⟨y :: l, ?_, h2.off hg' (fun k e => ?_), ?_, h4⟩
  · exact ho'
  · obtain rfl : w.heap.size = k := Option.some.inj e
    have := k3.size
    have := h2.base
    have := k2.lt
    exact ⟨by omega, by omega⟩
  · exact grown_then h3 hg' k3.size
end

set_option maxRecDepth 100000 in
set_option maxHeartbeats 8000000 in
theorem l20Order_c {w : World} {B g K : Nat} (h : RdS w B g K) (hK : K ≤ 100000000) (lanes n : Nat) (hln : lanes ≤ 9) (hn : n ≤ 1000) :
    Calls Try.prog 65 #[.pointer (some ⟨g, 0, none⟩), .int .i64 lanes, .int .i64 n] w fun e w' => ∃ (A : Option Addr) (m c : Nat), e = .returned (.slice A m c) ∧ m ≤ 60 ∧ DIx w B g (K + 60) A m c w' := by
  have hgl := h.lt
  have D0 := DIx.start h
  have hmk : ∀ w : World, (Instr.makeSlice 23 (.int .i64 41) (.int .i64 41)).run Try.prog w = .ok (.slice (some ⟨w.heap.size, 0, none⟩) 41 41) (w.alloc (.cells (zeroRow (.int .i64 0) 41) 3)) := make_int 41 (by omega)
  go_enter Try.func65, Try.ntmps65
  go_wp2_with fail
  have hS0 : ∃ ad, (some (⟨w.heap.size, 0, none⟩ : Addr)) = some ad := ⟨_, rfl⟩
  generalize (some (⟨w.heap.size, 0, none⟩ : Addr)) = A0 at *
  generalize w.alloc (.cells #[] 3) = w1 at *
  refine (pick_i D0.rd (by omega) _ (by decide) (by decide)).mono ?_
  rintro e w2 ⟨v1, rfl, hv1, R1, g1, -, -⟩
  have D1 := D0.pick R1 g1
  clear D0 R1 g1
  go_wp2
  go_loopw [7, 8] (fun ov kv wr => ∃ (k : Nat) (A : Option Addr) (m c : Nat), kv = .int .i64 k ∧ ov = .slice A m c ∧ (∃ ad, A = some ad) ∧ m + k ≤ 11 ∧ DIx w B g (K + 13 - k) A m c wr) (fun _ kv _ => (intOf kv).toNat)
  case atStart => exact ⟨v1, _, 0, 0, rfl, rfl, hS0, by omega, D1.more (by omega)⟩
  case round =>
    clear D1 hS0
    obtain ⟨k, A, m, c, rfl, rfl, hS, hm1, D⟩ := hrel
    by_cases hlt : 0 < k
    · have hkI : (0 : Int) < (k : Int) := by omega
      have hq : IntKind.i64.wrap ((k : Int) - 1) = ((k - 1 : Nat) : Int) := by rw [IntWalk.i64_in _ (by omega)]; omega
      by_cases h1l : 1 < lanes
      · have h1I : ((1 : Int) < (lanes : Int)) = True := eq_true (by omega)
        go_wp2_with fail
        refine (pick_i D.rd (by omega) _ (by omega) (by omega)).mono ?_
        rintro e w5 ⟨v3, rfl, hv3, R3, g3, -, -⟩
        have D5 := D.pick R3 g3
        clear D R3 g3 h1I
        go_wp2_with (at_builtin; refine app_di D5 rfl _ _ rfl rfl v3 rfl (by omega) ?_)
        intro A' c' w9 D9
        clear D5
        go_wp2
        go_roundw
        case rel => exact ⟨k - 1, A', m + 1, c', by go_num, rfl, D9.some_ (by omega), by omega, D9.more (by omega)⟩
        case measure => (simp [intOf] <;> omega)
      · have h1I : ((1 : Int) < (lanes : Int)) = False := eq_false (by omega)
        go_wp2_with fail
        refine (pick_i D.rd (by omega) _ (by decide) (by decide)).mono ?_
        rintro e w5 ⟨v3, rfl, hv3, R3, g3, -, -⟩
        have D5 := D.pick R3 g3
        clear D R3 g3 h1I
        go_wp2_with (at_builtin; refine app_di D5 rfl _ _ rfl rfl v3 rfl (by omega) ?_)
        intro A' c' w9 D9
        clear D5
        go_wp2
        go_roundw
        case rel => exact ⟨k - 1, A', m + 1, c', by go_num, rfl, D9.some_ (by omega), by omega, D9.more (by omega)⟩
        case measure => (simp [intOf] <;> omega)
    · have hk0 : ¬ (0 : Int) < (k : Int) := by omega
      have hm2 : m ≤ 11 := by omega
      clear hlt hm1
      go_wp2
      go_loopw [7, 9] (fun ov kv wr => ∃ (k : Nat) (A : Option Addr) (m c : Nat), kv = .int .i64 k ∧ ov = .slice A m c ∧ (∃ ad, A = some ad) ∧ k ≤ lanes ∧ m ≤ 11 + k ∧ DIx w B g (K + 20 + k) A m c wr) (fun _ kv _ => lanes - (intOf kv).toNat)
      case atStart => exact ⟨0, _, _, _, rfl, rfl, hS, by omega, by omega, D.more (by omega)⟩
      case round =>
        clear D hS hm2
        obtain ⟨k, A, m, c, rfl, rfl, hS, hk, hm1, D⟩ := hrel
        by_cases hlt : k < lanes
        · have hkI : (k : Int) < (lanes : Int) := by omega
          have hq : IntKind.i64.wrap ((k : Int) + 1) = (k : Int) + 1 := IntWalk.i64_in _ (by omega)
          go_wp2_with fail
          refine (pick_i D.rd (by omega) _ (by decide) (by decide)).mono ?_
          rintro e w5 ⟨v3, rfl, hv3, R3, g3, -, -⟩
          have D5 := D.pick R3 g3
          clear D R3 g3
          have hv : v3 = 0 ∨ v3 = 1 := by omega
          clear hv3
          rcases hv with rfl | rfl
          · go_wp2_with (at_builtin; refine app_di D5 rfl _ _ rfl rfl k rfl (by omega) ?_)
            intro A' c' w9 D9
            clear D5
            go_wp2
            go_roundw
            case rel => exact ⟨k + 1, A', m + 1, c', by go_num, rfl, D9.some_ (by omega), by omega, by omega, D9.more (by omega)⟩
            case measure => (simp [intOf] <;> omega)
          · go_wp2_with (at_builtin; refine pre_di D5 hS rfl _ _ rfl k rfl rfl (by omega) ?_)
            intro A' c' w9 D9
            clear D5
            go_wp2
            go_roundw
            case rel => exact ⟨k + 1, A', 1 + m, c', by go_num, rfl, D9.some_ (by omega), by omega, by omega, D9.more (by omega)⟩
            case measure => (simp [intOf] <;> omega)
        · obtain rfl : k = lanes := by omega
          clear hlt
          go_wp2_with fail
          refine (odd_c D.rd (by omega) n (by omega)).mono ?_
          rintro e w5 ⟨v3, rfl, -, R3, g3, -⟩
          have D5 := D.pick R3 g3
          clear D R3 g3
          cases v3 with
          | false =>
            go_wp2
            go_ret
            exact ⟨_, m, _, rfl, by omega, D5.more (by omega)⟩
          | true =>
            go_wp2_with fail
            refine (pick_i D5.rd (by omega) _ (by decide) (by decide)).mono ?_
            rintro e w6 ⟨v4, rfl, hv4, R4, g4, -, -⟩
            have D6 := D5.pick R4 g4
            clear D5 R4 g4
            have hv : v4 = 0 ∨ v4 = 1 ∨ v4 = 2 := by omega
            clear hv4
            rcases hv with rfl | rfl | rfl
            · have D7 := D6.take (m := m / 2) (by omega)
              have hc := D6.capR
              have hdv : (m : Int).tdiv 2 = ((m / 2 : Nat) : Int) := by rw [Int.tdiv_eq_ediv_of_nonneg (by omega)]; omega
              have h2c : m / 2 ≤ c := by omega
              go_wp2
              go_ret
              exact ⟨_, m / 2, _, rfl, by omega, D7.more (by omega)⟩
            · go_wp2_with (at_builtin; refine app_di D6 rfl _ _ rfl rfl k rfl (by omega) ?_)
              intro A' c' w9 D9
              clear D6
              go_wp2
              go_ret
              exact ⟨_, m + 1, _, rfl, by omega, D9.more (by omega)⟩
            · have D7 := D6.made 41 (by omega)
              go_wp2
              go_ret
              exact ⟨_, 41, _, rfl, by omega, D7.more (by omega)⟩


def DRunO (w : World) (B g K : Nat) (e : Ending) (w' : World) : Prop :=
  ∃ (A : Option Addr) (n c : Nat) (lanes : Int) (Am : Option Addr) (m cm : Nat), e = .returned (.tuple #[.slice A n c, .int .i64 lanes, .slice Am m cm]) ∧ n ≤ 200000 ∧ m ≤ 40 ∧ 0 ≤ lanes ∧ lanes ≤ 9 ∧
    DSx w B g K A n c w' ∧ ∃ l : List Int, OI w' w.heap.size Am m cm l

set_option maxRecDepth 100000 in
set_option maxHeartbeats 8000000 in
theorem l20RunO_c {w : World} {B g K : Nat} (h : RdS w B g K) (hK : K ≤ 1000000) (n : Nat) (hn : n ≤ 1000) :
    Calls Try.prog 61 #[.pointer (some ⟨g, 0, none⟩), .int .i64 n] w (DRunO w B g (K + 600000)) := by
  go_enter Try.func61, Try.ntmps61
  go_wp2_with fail
  refine (l20Program_c h (by omega) n (by omega)).mono ?_
  rintro e w2 ⟨A2, n2, c2, rfl, hn2, D2⟩
  have hgl := h.lt
  clear h
  go_wp2_with fail
  refine (pick_i D2.rd (by omega) _ (by decide) (by decide)).mono ?_
  rintro e w3 ⟨v1, rfl, hv1, R3, g3, -, -⟩
  have D3 := D2.pick R3 g3
  have hq1 : IntKind.i64.wrap (1 + (v1 : Int)) = 1 + (v1 : Int) := IntWalk.i64_in _ (by omega)
  clear D2 R3 g3
  go_wp2_with fail
  refine (odd_c D3.rd (by omega) 9 (by omega)).mono ?_
  rintro e w4 ⟨v2, rfl, -, R4, g4, -⟩
  have D4 := D3.pick R4 g4
  clear D3 R4 g4
  cases v2 with
  | false =>
    go_wp2_with fail
    refine (odd_c D4.rd (by omega) n (by omega)).mono ?_
    rintro e w5 ⟨v3, rfl, -, R5, g5, -⟩
    have D5 := D4.pick R5 g5
    have hgl5 : g < w5.heap.size := R5.lt
    clear D4 R5 g5
    cases v3 with
    | false =>
      go_wp2_with fail
      refine (l20Memory_c D5.rd (by omega) n (by omega)).mono ?_
      rintro e w9 ⟨Am, m, cm, rfl, hm, DM⟩
      have D9 := D5.pick DM.rd DM.gr
      have DM2 := DM
      obtain ⟨l, hl, -⟩ := DM2
      have hl2 := OR.mono hl D5.size
      clear DM D5
      go_wp2
      go_ret3
      exact ⟨A2, n2, c2, _, Am, m, cm, rfl, hn2, hm, by omega, by omega, D9.more (by omega), l, hl2⟩
    | true =>
      have D6 := D5.alloc (.cells #[.int .i64 0, .int .i64 9] 3)
      have hN := heap_alloc_new w5 (.cells #[.int .i64 0, .int .i64 9] 3)
      go_wp2_with fail
      generalize w5.alloc (.cells #[.int .i64 0, .int .i64 9] 3) = w6 at *
      refine (pick_i D6.rd (by omega) _ (by decide) (by decide)).mono ?_
      rintro e w7 ⟨v6, rfl, hv6, R7, g7, -, -⟩
      have D7 := D6.pick R7 g7
      have hN7 := (g7.block _ (lt_of_block hN) (fun e => absurd (Option.some.inj e) (by omega))).trans hN
      obtain ⟨y, hy0, hy9, hy⟩ : ∃ y : Int, 0 ≤ y ∧ y ≤ 9 ∧ w7.cell? ⟨w5.heap.size, v6, none⟩ = some (.int .i64 y) := by
        have e : v6 = 0 ∨ v6 = 1 := by omega
        rcases e with rfl | rfl
        · exact ⟨0, by omega, by omega, cell_of_heap hN7 0⟩
        · exact ⟨9, by omega, by omega, cell_of_heap hN7 1⟩
      clear D5 D6 R7 g7 hN hN7
      go_wp2_with fail
      refine (l20Memory_c D7.rd (by omega) n (by omega)).mono ?_
      rintro e w9 ⟨Am, m, cm, rfl, hm, DM⟩
      have D9 := D7.pick DM.rd DM.gr
      have DM2 := DM
      obtain ⟨l, hl, -⟩ := DM2
      have hl2 := OR.mono hl D7.size
      clear DM D7
      go_wp2
      go_ret3
      exact ⟨A2, n2, c2, _, Am, m, cm, rfl, hn2, hm, by omega, by omega, D9.more (by omega), l, hl2⟩
  | true =>
    go_wp2_with fail
    refine (odd_c D4.rd (by omega) n (by omega)).mono ?_
    rintro e w5 ⟨v3, rfl, -, R5, g5, -⟩
    have D5 := D4.pick R5 g5
    have hgl5 : g < w5.heap.size := R5.lt
    clear D4 R5 g5
    cases v3 with
    | false =>
      go_wp2_with fail
      refine (l20Memory_c D5.rd (by omega) n (by omega)).mono ?_
      rintro e w9 ⟨Am, m, cm, rfl, hm, DM⟩
      have D9 := D5.pick DM.rd DM.gr
      have DM2 := DM
      obtain ⟨l, hl, -⟩ := DM2
      have hl2 := OR.mono hl D5.size
      clear DM D5
      go_wp2
      go_ret3
      exact ⟨A2, n2, c2, _, Am, m, cm, rfl, hn2, hm, by omega, by omega, D9.more (by omega), l, hl2⟩
    | true =>
      have D6 := D5.alloc (.cells #[.int .i64 0, .int .i64 9] 3)
      have hN := heap_alloc_new w5 (.cells #[.int .i64 0, .int .i64 9] 3)
      go_wp2_with fail
      generalize w5.alloc (.cells #[.int .i64 0, .int .i64 9] 3) = w6 at *
      refine (pick_i D6.rd (by omega) _ (by decide) (by decide)).mono ?_
      rintro e w7 ⟨v6, rfl, hv6, R7, g7, -, -⟩
      have D7 := D6.pick R7 g7
      have hN7 := (g7.block _ (lt_of_block hN) (fun e => absurd (Option.some.inj e) (by omega))).trans hN
      obtain ⟨y, hy0, hy9, hy⟩ : ∃ y : Int, 0 ≤ y ∧ y ≤ 9 ∧ w7.cell? ⟨w5.heap.size, v6, none⟩ = some (.int .i64 y) := by
        have e : v6 = 0 ∨ v6 = 1 := by omega
        rcases e with rfl | rfl
        · exact ⟨0, by omega, by omega, cell_of_heap hN7 0⟩
        · exact ⟨9, by omega, by omega, cell_of_heap hN7 1⟩
      clear D5 D6 R7 g7 hN hN7
      go_wp2_with fail
      refine (l20Memory_c D7.rd (by omega) n (by omega)).mono ?_
      rintro e w9 ⟨Am, m, cm, rfl, hm, DM⟩
      have D9 := D7.pick DM.rd DM.gr
      have DM2 := DM
      obtain ⟨l, hl, -⟩ := DM2
      have hl2 := OR.mono hl D7.size
      clear DM D7
      go_wp2
      go_ret3
      exact ⟨A2, n2, c2, _, Am, m, cm, rfl, hn2, hm, by omega, by omega, D9.more (by omega), l, hl2⟩

theorem or_pick {w w' : World} {base e size n c g : Nat} {A : Option Addr} {xs : List Value} (h : OR w base e size A n c xs) (hb : g < base) (hg : w.grownBy w' (some g)) : OR w' base e size A n c xs := by
  refine OR.kept h hg ?_
  cases ho : Value.ownBlock (.slice A n c) with
  | none => exact .inl rfl
  | some k => exact .inr (fun e => by have := (OR.block h k ho).1; have := Option.some.inj e; omega)


def LeastP (w : World) (e : Ending) (w' : World) : Prop :=
  ∃ (l : List Cd) (A : Option Addr) (c : Nat) (n : Int) (m : List Int) (Am : Option Addr) (cm : Nat), e = .returned (.tuple #[.slice A l.length c, .int .i64 n, .slice Am m.length cm]) ∧ l.length ≤ 200000 ∧ m.length ≤ 40 ∧ (0 ≤ n ∧ n ≤ 9) ∧
    RdC w' w'.heap.size A l ∧ RdI w' w'.heap.size Am m ∧ Below w.heap.size w w'
def OrderP (w : World) (e : Ending) (w' : World) : Prop :=
  ∃ (l : List Cd) (A : Option Addr) (c : Nat) (n : Int) (m : List Int) (Am : Option Addr) (cm : Nat) (xs : List Int) (Ax : Option Addr) (cx : Nat), e = .returned (.tuple #[.slice A l.length c, .int .i64 n, .slice Am m.length cm, .slice Ax xs.length cx]) ∧ l.length ≤ 200000 ∧ m.length ≤ 40 ∧ xs.length ≤ 60 ∧ (0 ≤ n ∧ n ≤ 9) ∧
    RdC w' w'.heap.size A l ∧ RdI w' w'.heap.size Am m ∧ RdI w' w'.heap.size Ax xs ∧ Below w.heap.size w w'
def GroupsP (w : World) (e : Ending) (w' : World) : Prop :=
  ∃ (l : List Cd) (A : Option Addr) (c : Nat) (n s : Int) (m : List Int) (Am : Option Addr) (cm : Nat) (xs : List Int) (Ax : Option Addr) (cx : Nat), e = .returned (.tuple #[.slice A l.length c, .int .i64 n, .int .i64 s, .slice Am m.length cm, .slice Ax xs.length cx]) ∧ l.length ≤ 200000 ∧ m.length ≤ 40 ∧ xs.length ≤ 60 ∧ (0 ≤ n ∧ n ≤ 9) ∧ (1 ≤ s ∧ s ≤ 4) ∧
    RdC w' w'.heap.size A l ∧ RdI w' w'.heap.size Am m ∧ RdI w' w'.heap.size Ax xs ∧ Below w.heap.size w w'

theorem results_tmp4 {fn : Func} {t u v x : Tmp} (h : fn.results = #[.tmp t, .tmp u, .tmp v, .tmp x]) (tmps : Array Value) (P : Program) (w : World) :
    (results fn tmps).run P w = .ok (.tuple #[tmps.getD t undef, tmps.getD u undef, tmps.getD v undef, tmps.getD x undef]) w := by
  simp [results, h]
theorem results_tmp5 {fn : Func} {t u v x y : Tmp} (h : fn.results = #[.tmp t, .tmp u, .tmp v, .tmp x, .tmp y]) (tmps : Array Value) (P : Program) (w : World) :
    (results fn tmps).run P w = .ok (.tuple #[tmps.getD t undef, tmps.getD u undef, tmps.getD v undef, tmps.getD x undef, tmps.getD y undef]) w := by
  simp [results, h]
theorem DSx.whole {w w1 w2 : World} {B g K n c : Nat} {A : Option Addr} (hB : Below w.heap.size w w1) (hg : w.heap.size ≤ g) (D : DSx w1 B g K A n c w2) :
    ∃ l : List Cd, l.length = n ∧ RdC w2 w2.heap.size A l ∧ Below w.heap.size w w2 := by
  obtain ⟨x, h1, h2, h3, h4⟩ := D
  obtain rfl := OC.len h1
  exact ⟨x, rfl, OC.rd h1, hB.grown h3 hB.size (fun k e => by cases e; exact hg)⟩

set_option maxRecDepth 100000 in
theorem drawRunLeast_c (A : Option Addr) (c : Nat) (bs : List Int) (w : World) (hA : Reads w w.heap.size 1 A bs.length (bs.map (.int .u8))) (hb : ∀ x ∈ bs, 0 ≤ x ∧ x ≤ 255) (hl : bs.length ≤ 9223372036854775807) (hcap : bs.length ≤ c) :
    Calls Try.prog 23 #[.slice A bs.length c] w (LeastP w) := by
  go_enter Try.func23, Try.ntmps23
  go_wp2_with fail
  refine (l20Open_c A c bs w hA hb hl hcap).mono ?_
  rintro e w1 ⟨rfl, hR, hB, hs⟩
  go_wp2_with fail
  refine (l20RunO_c hR (by omega) 14 (by omega)).mono ?_
  rintro e w2 ⟨A2, n2, c2, lanes, Am, m, cm, rfl, hn2, hm, h0, h9, D, l, hOI⟩
  obtain ⟨x, hx, hrd, hB2⟩ := D.whole hB (Nat.le_refl _)
  have hlm : l.length = m := OI.len hOI
  subst hlm hx
  clear D hB hs hR
  go_wp2
  go_ret3
  exact ⟨x, A2, c2, lanes, l, Am, cm, rfl, hn2, hm, ⟨h0, h9⟩, hrd, OI.rd hOI, hB2⟩

set_option maxRecDepth 100000 in
theorem drawRunOrder_c (A : Option Addr) (c : Nat) (bs : List Int) (w : World) (hA : Reads w w.heap.size 1 A bs.length (bs.map (.int .u8))) (hb : ∀ x ∈ bs, 0 ≤ x ∧ x ≤ 255) (hl : bs.length ≤ 9223372036854775807) (hcap : bs.length ≤ c) :
    Calls Try.prog 28 #[.slice A bs.length c] w (OrderP w) := by
  go_enter Try.func28, Try.ntmps28
  go_wp2_with fail
  refine (l20Open_c A c bs w hA hb hl hcap).mono ?_
  rintro e w1 ⟨rfl, hR, hB, hs⟩
  have hgl : w.heap.size < w1.heap.size := hR.lt
  go_wp2_with fail
  refine (l20RunO_c hR (by omega) 20 (by omega)).mono ?_
  rintro e w2 ⟨A2, n2, c2, lanes, Am, m, cm, rfl, hn2, hm, h0, h9, D, l, hOI⟩
  obtain ⟨N, rfl⟩ := Int.eq_ofNat_of_zero_le h0
  have hN9 : N ≤ 9 := by omega
  clear hR hs
  go_wp2_with fail
  refine (l20Order_c D.rd (by omega) N 14 hN9 (by omega)).mono ?_
  rintro e w3 ⟨Ax, mx, cx, rfl, hx60, DO⟩
  have D3 := D.pick DO.rd DO.gr
  have hOI3 : OI w3 w1.heap.size Am m cm l := or_pick hOI hgl DO.gr
  obtain ⟨x, hx, hrd, hB2⟩ := D3.whole hB (Nat.le_refl _)
  obtain ⟨xs, hxs, hrx⟩ := DO.reads
  have hlm : l.length = m := OI.len hOI3
  subst hlm hx hxs
  clear D D3 DO hB hOI
  go_wp2
  (try simp only [Exit.inBlock, Exit.then])
  refine bodyPost_ret (results_tmp4 rfl _ _ _) rfl ?_
  exact ⟨x, A2, c2, N, l, Am, cm, xs, Ax, cx, rfl, hn2, hm, hx60, ⟨h0, h9⟩, hrd, OI.rd hOI3, hrx, hB2⟩

theorem grMany_le {n s : Int} (hn : n ≤ 9) (h0 : 0 ≤ n) (h1 : 1 ≤ s) : grMany n s ≤ 9 := by
  unfold grMany
  split
  · rename_i h
    simp only [Bool.and_eq_true, inR_iff] at h
    have h8 : n + s - 1 ≤ 8 * s := by
      obtain ⟨⟨_, _⟩, _, _⟩ := h
      have : n * 1 ≤ n * s := Int.mul_le_mul_of_nonneg_left h1 h0
      have : s * n ≤ s * 8 := Int.mul_le_mul_of_nonneg_left (by omega) (by omega)
      rw [Int.mul_comm s n] at this
      have e : n * s = (n - 1) * s + s := by rw [Int.sub_mul]; omega
      have : (n - 1) * 1 ≤ (n - 1) * s := Int.mul_le_mul_of_nonneg_left h1 (by omega)
      omega
    have := Int.ediv_le_ediv (c := s) (by omega) h8
    rw [Int.mul_ediv_cancel _ (by omega)] at this
    omega
  · omega

set_option maxRecDepth 100000 in
theorem drawRunGroups_c (A : Option Addr) (c : Nat) (bs : List Int) (w : World) (hA : Reads w w.heap.size 1 A bs.length (bs.map (.int .u8))) (hb : ∀ x ∈ bs, 0 ≤ x ∧ x ≤ 255) (hl : bs.length ≤ 9223372036854775807) (hcap : bs.length ≤ c) :
    Calls Try.prog 31 #[.slice A bs.length c] w (GroupsP w) := by
  go_enter Try.func31, Try.ntmps31
  go_wp2_with fail
  refine (l20Open_c A c bs w hA hb hl hcap).mono ?_
  rintro e w1 ⟨rfl, hR, hB, hs⟩
  have hgl : w.heap.size < w1.heap.size := hR.lt
  go_wp2_with fail
  refine (l20RunO_c hR (by omega) 20 (by omega)).mono ?_
  rintro e w2 ⟨A2, n2, c2, lanes, Am, m, cm, rfl, hn2, hm, h0, h9, D, l, hOI⟩
  clear hR hs
  go_wp2_with fail
  refine (pick_i D.rd (by omega) _ (by decide) (by decide)).mono ?_
  rintro e w3 ⟨v, rfl, hv, R3, g3, -, -⟩
  have D3 := D.pick R3 g3
  have hOI3 : OI w3 w1.heap.size Am m cm l := or_pick hOI hgl g3
  have hq1 : IntKind.i64.wrap (1 + (v : Int)) = 1 + (v : Int) := IntWalk.i64_in _ (by omega)
  clear D R3 g3 hOI
  go_wp2_with fail
  refine (sGroupsMany_c lanes (1 + (v : Int)) _).mono ?_
  rintro e w4 ⟨rfl, rfl⟩
  have hG := grMany_le (n := lanes) (s := 1 + (v : Int)) h9 h0 (by omega)
  obtain ⟨N, hN9, hmax, hlt⟩ : ∃ N : Nat, N ≤ 9 ∧ (if (1 : Int) < grMany lanes (1 + (v : Int)) then grMany lanes (1 + (v : Int)) else 1) = (N : Int) ∧ ((1 : Int) < grMany lanes (1 + (v : Int)) ∨ ¬ (1 : Int) < grMany lanes (1 + (v : Int))) := by
    by_cases h : (1 : Int) < grMany lanes (1 + (v : Int))
    · exact ⟨(grMany lanes (1 + (v : Int))).toNat, by omega, by rw [if_pos h]; omega, .inl h⟩
    · exact ⟨1, by omega, by rw [if_neg h]; rfl, .inr h⟩
  generalize grMany lanes (1 + (v : Int)) = G at *
  rcases hlt with h1 | h1
  · rw [if_pos h1] at hmax
    subst hmax
    go_wp2_with fail
    refine (l20Order_c D3.rd (by omega) N 14 hN9 (by omega)).mono ?_
    rintro e w5 ⟨Ax, mx, cx, rfl, hx60, DO⟩
    have D5 := D3.pick DO.rd DO.gr
    have hOI5 : OI w5 w1.heap.size Am m cm l := or_pick hOI3 hgl DO.gr
    obtain ⟨x, hx, hrd, hB2⟩ := D5.whole hB (Nat.le_refl _)
    obtain ⟨xs, hxs, hrx⟩ := DO.reads
    have hlm : l.length = m := OI.len hOI5
    subst hlm hx hxs
    clear D3 D5 DO hB hOI3
    go_wp2
    (try simp only [Exit.inBlock, Exit.then])
    refine bodyPost_ret (results_tmp5 rfl _ _ _) rfl ?_
    exact ⟨x, A2, c2, lanes, 1 + (v : Int), l, Am, cm, xs, Ax, cx, rfl, hn2, hm, hx60, ⟨h0, h9⟩, ⟨by omega, by omega⟩, hrd, OI.rd hOI5, hrx, hB2⟩
  · clear hmax
    go_wp2_with fail
    refine (l20Order_c D3.rd (by omega) 1 14 (by omega) (by omega)).mono ?_
    rintro e w5 ⟨Ax, mx, cx, rfl, hx60, DO⟩
    have D5 := D3.pick DO.rd DO.gr
    have hOI5 : OI w5 w1.heap.size Am m cm l := or_pick hOI3 hgl DO.gr
    obtain ⟨x, hx, hrd, hB2⟩ := D5.whole hB (Nat.le_refl _)
    obtain ⟨xs, hxs, hrx⟩ := DO.reads
    have hlm : l.length = m := OI.len hOI5
    subst hlm hx hxs
    clear D3 D5 DO hB hOI3
    go_wp2
    (try simp only [Exit.inBlock, Exit.then])
    refine bodyPost_ret (results_tmp5 rfl _ _ _) rfl ?_
    exact ⟨x, A2, c2, lanes, 1 + (v : Int), l, Am, cm, xs, Ax, cx, rfl, hn2, hm, hx60, ⟨h0, h9⟩, ⟨by omega, by omega⟩, hrd, OI.rd hOI5, hrx, hB2⟩


theorem grMany_eight {N : Nat} (h1 : 1 ≤ N) (h8 : N ≤ 8) : grMany N 8 = 1 := by
  have e : inR (N : Int) 1 8 = true := inR_iff.2 ⟨by omega, by omega⟩
  have e2 : inR (8 : Int) 1 8 = true := rfl
  unfold grMany
  rw [e, e2]
  simp only [Bool.and_self, if_true]
  omega
theorem grMany_one {N : Nat} (h1 : 1 ≤ N) (h8 : N ≤ 8) : grMany N 1 = N := by
  have e : inR (N : Int) 1 8 = true := inR_iff.2 ⟨by omega, by omega⟩
  have e2 : inR (1 : Int) 1 8 = true := rfl
  unfold grMany
  rw [e, e2]
  simp only [Bool.and_self, if_true]
  omega

theorem groups_all (l : List Cd) (n : Int) (m : List Int) : groupsM l n 8 m [0] = leastM l n m := by
  unfold groupsM leastM groupsOk
  cases h : lockOk l n m with
  | false => simp
  | true =>
    obtain ⟨N, rfl, N1, N8, hp, hw, hm1, hm32⟩ := lock_parts h
    have e : ordOk [0] 1 = true := by decide
    have e2 : grSch (N : Int).toNat (8 : Int).toNat [0] = allSch (N : Int).toNat := by
      funext i
      exact grSch_all (by rw [Int.toNat_natCast]; exact N8) i
    rw [grMany_eight N1 N8, e, e2]
    simp

theorem groups_one (l : List Cd) (n : Int) (m xs : List Int) : groupsM l n 1 m xs = orderM l n m xs := by
  have hk : groupsOk l n 1 m xs = orderOk l n m xs := by
    unfold groupsOk orderOk
    cases h : lockOk l n m with
    | false => rfl
    | true =>
      obtain ⟨N, rfl, N1, N8, -⟩ := lock_parts h
      rw [grMany_one N1 N8]
  unfold groupsM orderM
  rw [hk]
  cases h : orderOk l n m xs with
  | false => rfl
  | true =>
    obtain ⟨N, rfl, N1, N8, x1, x40, hxs, -⟩ := order_in h
    have e2 : grSch (N : Int).toNat (1 : Int).toNat xs = orSch xs := by
      funext i
      exact grSch_one (by rw [Int.toNat_natCast]; exact N8) (by rw [Int.toNat_natCast]; exact hxs) x1 i
    rw [e2]

theorem groups_cases (l : List Cd) (n s : Int) (m xs : List Int) : groupsM l n s m xs = [] ∨
    ∃ N P S : Nat, n = (N : Int) ∧ SchOk N P (grSch N S xs) ∧ groupsM l n s m xs = (runE l (grSch N S xs) (Cw.start N m)).mem ∧ (groupsM l n s m xs).length = m.length ∧ 1 ≤ m.length := by
  cases h : groupsOk l n s m xs with
  | false => exact .inl (by simp [groupsM, h])
  | true =>
    obtain ⟨N, S, G, rfl, rfl, hG, N1, N8, S1, S8, x1, x40, hxs, hsch, hp, hw, hm1, hm32⟩ := groups_in h
    have h2 := runE_mem hp N8 hsch (CwOk.start (l := l) (n := N) hw) (start_nrm N1 m)
    have e : groupsM l N S m xs = (runE l (grSch N S xs) (Cw.start N m)).mem := by simp [groupsM, h]
    exact .inr ⟨N, xs.length, S, rfl, hsch, e, by rw [e, h2]; rfl, hm1⟩


set_option maxRecDepth 100000 in
set_option maxHeartbeats 8000000 in
theorem fnGroupsOne_c (w : World) (A : Option Addr) (c : Nat) (bs : List Int) (hA : Reads w w.heap.size 1 A bs.length (bs.map (.int .u8))) (hl : bs.length ≤ 9223372036854775807) (hb : ∀ x ∈ bs, 0 ≤ x ∧ x ≤ 255) (hcap : bs.length ≤ c) :
    Calls Try.prog 6 #[.slice A bs.length c] w fun e w' => e = .returned (.bool true) ∧ Below w.heap.size w w' := by
  by_cases hbig0 : 1048576 < bs.length
  · go_enter Try.func6, Try.ntmps6
    go_wp2
    go_ret
    exact ⟨rfl, Below.refl _ _⟩
  · go_enter Try.func6, Try.ntmps6
    go_wp2_with fail
    refine (drawRunOrder_c A c bs w hA hb hl hcap).mono ?_
    rintro e w1 ⟨l, A1, c1, n, mem, Ar, cr, xs, Ax, cx, rfl, hl2, hm40, hx60, hn9, r1, rM, rX, hB⟩
    have hVl := orderM_len l n mem xs
    have HI := Lib.hid (fun W a b d => iRunOrder_c A1 Ar Ax c1 cr cx l n mem xs W a b d (by omega) (by omega) (by omega))
    have HS := Lib.hid (fun W a b d => sRunOrder_c A1 Ar Ax c1 cr cx l n mem xs W a b d (by omega) (by omega) (by omega))
    have HG := Lib.hid (fun W a b d => iRunGroups_c A1 Ar Ax c1 cr cx l n 1 mem xs W a b d (by omega) (by omega) (by omega))
    rw [groups_one] at HG
    unfold GmP at HI HS HG
    generalize orderM l n mem xs = V at *
    go_wp2_with fail
    refine (HI.out w1 r1 rM rX).mono ?_
    rintro e w2 ⟨M1, d1, rfl, o1, b2⟩
    replace r1 := (r1.below b2).more b2.size
    replace rM := (rM.below b2).more b2.size
    replace rX := (rX.below b2).more b2.size
    replace hB := below_trans hB (Nat.le_refl _) b2
    clear b2
    have v1 := OwI.rd o1
    clear o1 HI
    go_wp2_with fail
    refine (HS.out w2 r1 rM rX).mono ?_
    rintro e w3 ⟨M2, d2, rfl, o2, b3⟩
    replace r1 := (r1.below b3).more b3.size
    replace rM := (rM.below b3).more b3.size
    replace rX := (rX.below b3).more b3.size
    replace v1 := (v1.below b3).more b3.size
    replace hB := below_trans hB (Nat.le_refl _) b3
    clear b3
    have v2 := OwI.rd o2
    clear o2 HS
    go_wp2_with fail
    refine (sameInts_c M1 M2 d1 d2 V w3 v1 v2 (by omega)).mono ?_
    rintro e w4 ⟨rfl, b4⟩
    replace r1 := (r1.below b4).more b4.size
    replace rM := (rM.below b4).more b4.size
    replace rX := (rX.below b4).more b4.size
    replace v1 := (v1.below b4).more b4.size
    replace v2 := (v2.below b4).more b4.size
    replace hB := below_trans hB (Nat.le_refl _) b4
    clear b4
    clear v2
    go_wp2_with fail
    refine (HG.out w4 r1 rM rX).mono ?_
    rintro e w5 ⟨M3, d3, rfl, o3, b5⟩
    replace r1 := (r1.below b5).more b5.size
    replace rM := (rM.below b5).more b5.size
    replace rX := (rX.below b5).more b5.size
    replace v1 := (v1.below b5).more b5.size
    replace hB := below_trans hB (Nat.le_refl _) b5
    clear b5
    have v3 := OwI.rd o3
    clear o3 HG
    go_wp2_with fail
    refine (sameInts_c M3 M1 d3 d1 V w5 v3 v1 (by omega)).mono ?_
    rintro e w6 ⟨rfl, b6⟩
    replace r1 := (r1.below b6).more b6.size
    replace rM := (rM.below b6).more b6.size
    replace rX := (rX.below b6).more b6.size
    replace v1 := (v1.below b6).more b6.size
    replace v3 := (v3.below b6).more b6.size
    replace hB := below_trans hB (Nat.le_refl _) b6
    clear b6
    go_wp2_with fail
    refine (alive_c _).mono ?_
    rintro e wz ⟨rfl, rfl⟩
    go_wp2
    go_ret
    exact ⟨rfl, hB⟩


set_option maxRecDepth 100000 in
set_option maxHeartbeats 8000000 in
theorem fnGroupsAll_c (w : World) (A : Option Addr) (c : Nat) (bs : List Int) (hA : Reads w w.heap.size 1 A bs.length (bs.map (.int .u8))) (hl : bs.length ≤ 9223372036854775807) (hb : ∀ x ∈ bs, 0 ≤ x ∧ x ≤ 255) (hcap : bs.length ≤ c) :
    Calls Try.prog 5 #[.slice A bs.length c] w fun e w' => e = .returned (.bool true) ∧ Below w.heap.size w w' := by
  by_cases hbig0 : 1048576 < bs.length
  · go_enter Try.func5, Try.ntmps5
    go_wp2
    go_ret
    exact ⟨rfl, Below.refl _ _⟩
  · go_enter Try.func5, Try.ntmps5
    go_wp2_with fail
    refine (drawRunLeast_c A c bs w hA hb hl hcap).mono ?_
    rintro e w1 ⟨l, A1, c1, n, mem, Ar, cr, rfl, hl2, hm40, hn9, r1, rM, hB⟩
    have hVl := leastM_len l n mem
    have HI := Lib.hid (fun W a b => iRunLeast_c A1 Ar c1 cr l n mem W a b (by omega) (by omega))
    have HS := Lib.hid (fun W a b => sRunLeast_c A1 Ar c1 cr l n mem W a b (by omega) (by omega))
    have HG := Lib.hid (fun W X a b d => iRunGroups_c A1 Ar X c1 cr 1 l n 8 mem [0] W a b d (by omega) (by omega) (by decide))
    rw [groups_all] at HG
    unfold GmP at HI HS HG
    generalize leastM l n mem = V at *
    go_wp2_with fail
    refine (HI.out w1 r1 rM).mono ?_
    rintro e w2 ⟨M1, d1, rfl, o1, b2⟩
    replace r1 := (r1.below b2).more b2.size
    replace rM := (rM.below b2).more b2.size
    replace hB := below_trans hB (Nat.le_refl _) b2
    clear b2
    have v1 := OwI.rd o1
    clear o1 HI
    go_wp2_with fail
    refine (HS.out w2 r1 rM).mono ?_
    rintro e w3 ⟨M2, d2, rfl, o2, b3⟩
    replace r1 := (r1.below b3).more b3.size
    replace rM := (rM.below b3).more b3.size
    replace v1 := (v1.below b3).more b3.size
    replace hB := below_trans hB (Nat.le_refl _) b3
    clear b3
    have v2 := OwI.rd o2
    clear o2 HS
    go_wp2_with fail
    refine (sameInts_c M1 M2 d1 d2 V w3 v1 v2 (by omega)).mono ?_
    rintro e w4 ⟨rfl, b4⟩
    replace r1 := (r1.below b4).more b4.size
    replace rM := (rM.below b4).more b4.size
    replace v1 := (v1.below b4).more b4.size
    replace v2 := (v2.below b4).more b4.size
    replace hB := below_trans hB (Nat.le_refl _) b4
    clear b4
    clear v2
    go_wp2_with fail
    have rX : RdI (w4.alloc (.cells #[.int .i64 0] 3)) (w4.alloc (.cells #[.int .i64 0] 3)).heap.size (some ⟨w4.heap.size, 0, none⟩) [0] :=
      (OR.lit w4 w4.heap.size 3 1 1 #[.int .i64 0] (Nat.le_refl _) (by omega) rfl).reads
    have b5 : Below w4.heap.size w4 (w4.alloc (.cells #[.int .i64 0] 3)) := (by repeat (first | exact Below.refl _ _ | assumption | refine Below.alloc ?_ (by simp <;> omega) _ | refine Below.setCell ?_ (by simp <;> omega) _ | refine Below.drew ?_))
    replace r1 := (r1.below b5).more b5.size
    replace rM := (rM.below b5).more b5.size
    replace v1 := (v1.below b5).more b5.size
    replace hB := below_trans hB (Nat.le_refl _) b5
    clear b5
    refine (HG.out (w4.alloc (.cells #[.int .i64 0] 3)) _ r1 rM rX).mono ?_
    rintro e w6 ⟨M3, d3, rfl, o3, b6⟩
    replace r1 := (r1.below b6).more b6.size
    replace rM := (rM.below b6).more b6.size
    replace v1 := (v1.below b6).more b6.size
    replace rX := (rX.below b6).more b6.size
    replace hB := below_trans hB (Nat.le_refl _) b6
    clear b6
    have v3 := OwI.rd o3
    clear o3 HG
    clear rX
    go_wp2_with fail
    refine (sameInts_c M3 M1 d3 d1 V w6 v3 v1 (by omega)).mono ?_
    rintro e w7 ⟨rfl, b7⟩
    replace r1 := (r1.below b7).more b7.size
    replace rM := (rM.below b7).more b7.size
    replace v1 := (v1.below b7).more b7.size
    replace v3 := (v3.below b7).more b7.size
    replace hB := below_trans hB (Nat.le_refl _) b7
    clear b7
    go_wp2_with fail
    refine (alive_c _).mono ?_
    rintro e wz ⟨rfl, rfl⟩
    go_wp2
    go_ret
    exact ⟨rfl, hB⟩


/-- The slice at A reads as accesses. -/
def RdQ (w : World) (B : Nat) (A : Option Addr) (l : List Acc) : Prop := Reads w B 4 A l.length (accsV l)
/-- The slice at A reads as beats. -/
def RdT (w : World) (B : Nat) (A : Option Addr) (l : List (Nat × Nat)) : Prop := Reads w B 2 A l.length (beatsV l)
theorem accsV_get (l : List Acc) : ∀ (k : Nat) (q : Acc), l[k]? = some q → ∀ j, j < 4 → (accsV l)[k * 4 + j]? = ([.int .i64 q.who, .int .i64 q.cell, .bool q.wr, .int .i64 q.ph] : List Value)[j]? := by
  induction l with
  | nil => intro k q h; simp at h
  | cons y l ih =>
    intro k q h j hj
    cases k with
    | zero =>
      simp at h
      subst h
      simp only [accsV, List.flatMap_cons, Nat.zero_mul, Nat.zero_add]
      rw [List.getElem?_append_left (by simpa using hj)]
    | succ k =>
      simp only [List.getElem?_cons_succ] at h
      have := ih k q h j hj
      simp only [accsV, List.flatMap_cons] at this ⊢
      rw [List.getElem?_append_right (by simp; omega), ← this]
      congr 1
      simp; omega
theorem beatsV_at (l : List (Nat × Nat)) : ∀ (k : Nat) (q : Nat × Nat), l[k]? = some q → ∀ j, j < 2 → (beatsV l)[k * 2 + j]? = ([.int .i64 q.1, .int .i64 q.2] : List Value)[j]? := by
  induction l with
  | nil => intro k q h; simp at h
  | cons y l ih =>
    intro k q h j hj
    cases k with
    | zero =>
      simp at h
      subst h
      simp only [beatsV, List.flatMap_cons, Nat.zero_mul, Nat.zero_add]
      rw [List.getElem?_append_left (by simpa using hj)]
    | succ k =>
      simp only [List.getElem?_cons_succ] at h
      have := ih k q h j hj
      simp only [beatsV, List.flatMap_cons] at this ⊢
      rw [List.getElem?_append_right (by simp; omega), ← this]
      congr 1
      simp; omega
section
variable {w w' : World} {B B' : Nat} {A : Option Addr} {l : List Acc} {t : List (Nat × Nat)}
theorem RdQ.below (h : RdQ w B A l) (hb : Below B w w') : RdQ w' B A l := Reads.below h hb
theorem RdQ.more (h : RdQ w B A l) (hB : B ≤ B') : RdQ w B' A l := Reads.more h hB
theorem RdT.below (h : RdT w B A t) (hb : Below B w w') : RdT w' B A t := Reads.below h hb
theorem RdT.more (h : RdT w B A t) (hB : B ≤ B') : RdT w B' A t := Reads.more h hB
theorem RdQ.at_ (h : RdQ w B A l) {k : Nat} (hk : k < l.length) :
    ∃ b off q, A = some ⟨b, off, none⟩ ∧ b < B ∧ l[k]? = some q ∧
      w.cell? ⟨b, off + k * 4, none⟩ = some (.int .i64 q.who) ∧ w.cell? ⟨b, off + k * 4 + 1, none⟩ = some (.int .i64 q.cell) ∧
      w.cell? ⟨b, off + k * 4 + 2, none⟩ = some (.bool q.wr) ∧ w.cell? ⟨b, off + k * 4 + 3, none⟩ = some (.int .i64 q.ph) := by
  obtain ⟨b, off, e, hb, hc⟩ := h.2 (by omega)
  have hx : l[k]? = some l[k] := List.getElem?_eq_getElem hk
  have g := accsV_get l k _ hx
  exact ⟨b, off, l[k], e, hb, hx, hc (k * 4) _ (g 0 (by omega)), hc (k * 4 + 1) _ (g 1 (by omega)), hc (k * 4 + 2) _ (g 2 (by omega)), hc (k * 4 + 3) _ (g 3 (by omega))⟩
theorem RdT.at_ (h : RdT w B A t) {k : Nat} (hk : k < t.length) :
    ∃ b off q, A = some ⟨b, off, none⟩ ∧ b < B ∧ t[k]? = some q ∧ w.cell? ⟨b, off + k * 2, none⟩ = some (.int .i64 q.1) ∧ w.cell? ⟨b, off + k * 2 + 1, none⟩ = some (.int .i64 q.2) := by
  obtain ⟨b, off, e, hb, hc⟩ := h.2 (by omega)
  have hx : t[k]? = some t[k] := List.getElem?_eq_getElem hk
  have g := beatsV_at t k _ hx
  exact ⟨b, off, t[k], e, hb, hx, hc (k * 2) _ (g 0 (by omega)), hc (k * 2 + 1) _ (g 1 (by omega))⟩
end
noncomputable def accsOf (l : List Cd) (n : Int) (m : List Int) : List Acc := if lockOk l n m then (lockS l n.toNat m).accs else []

def clashI (aw ac bw bc ap bp : Int) (ar br : Bool) : Bool := (ap == bp) && (aw != bw) && (ac == bc) && (ar || br)
def clashA (a b : Acc) : Bool := clashI a.who a.cell b.who b.cell a.ph b.ph a.wr b.wr
def clashAt (l : List Acc) (i k : Nat) : Prop := ∃ a b, l[i]? = some a ∧ l[k]? = some b ∧ clashA a b = true
noncomputable def raceB (l : List Acc) : Bool := @decide (∃ k i, i < k ∧ clashAt l i k) (Classical.propDecidable _)
theorem race_yes {l : List Acc} {i k : Nat} {a b : Acc} (h : i < k) (ha : l[i]? = some a) (hb : l[k]? = some b) (hc : clashA a b = true) : raceB l = true := by
  unfold raceB
  exact @decide_eq_true _ (Classical.propDecidable _) ⟨k, i, h, a, b, ha, hb, hc⟩
theorem race_no {l : List Acc} (h : ∀ k i, k < l.length → i < k → ¬ clashAt l i k) : raceB l = false := by
  unfold raceB
  refine @decide_eq_false _ (Classical.propDecidable _) ?_
  rintro ⟨k, i, hik, hc⟩
  obtain ⟨a, b, ha, hb, hh⟩ := hc
  exact h k i (List.getElem?_eq_some_iff.1 hb).1 hik ⟨a, b, ha, hb, hh⟩

set_option maxRecDepth 100000 in
set_option maxHeartbeats 4000000 in
theorem clash_c (aw ac bw bc ap bp : Int) (ar br : Bool) (w : World) :
    Calls Try.prog 126 #[.agg #[.int .i64 aw, .int .i64 ac, .bool ar, .int .i64 ap], .agg #[.int .i64 bw, .int .i64 bc, .bool br, .int .i64 bp]] w fun e w' => e = .returned (.bool (clashI aw ac bw bc ap bp ar br)) ∧ Below w.heap.size w w' := by
  have HC := Lib.hid (show clashI aw ac bw bc ap bp ar br = ((ap == bp) && (aw != bw) && (ac == bc) && (ar || br)) from rfl)
  obtain ⟨x1, h1⟩ : ∃ x, (ap == bp) = x := ⟨_, rfl⟩
  obtain ⟨x2, h2⟩ : ∃ x, (aw != bw) = x := ⟨_, rfl⟩
  obtain ⟨x3, h3⟩ : ∃ x, (ac == bc) = x := ⟨_, rfl⟩
  rw [h1, h2, h3] at HC
  have hbw : Below w.heap.size w ((w.alloc (.cells #[.int .i64 aw, .int .i64 ac, .bool ar, .int .i64 ap] 147)).alloc (.cells #[.int .i64 bw, .int .i64 bc, .bool br, .int .i64 bp] 147)) := (by repeat (first | exact Below.refl _ _ | assumption | refine Below.alloc ?_ (by simp <;> omega) _ | refine Below.setCell ?_ (by simp <;> omega) _ | refine Below.drew ?_))
  cases x1 <;> cases x2 <;> cases x3 <;> cases ar <;> (
    go_enter Try.func126, Try.ntmps126
    go_wp2
    go_ret
    exact ⟨by rw [HC.out]; rfl, hbw⟩)

theorem RdQ.sub {w : World} {B : Nat} {A : Option Addr} {l : List Acc} (h : RdQ w B A l) {k : Nat} {x : Acc} (hx : l[k]? = some x) {b off : Nat} (e : A = some ⟨b, off, none⟩) : b < B ∧
    w.cell? ⟨b, off + k * 4, none⟩ = some (.int .i64 x.who) ∧ w.cell? ⟨b, off + k * 4 + 1, none⟩ = some (.int .i64 x.cell) ∧
      w.cell? ⟨b, off + k * 4 + 2, none⟩ = some (.bool x.wr) ∧ w.cell? ⟨b, off + k * 4 + 3, none⟩ = some (.int .i64 x.ph) := by
  obtain ⟨b', off', q, e', hb, hq, c0, c1, c2, c3⟩ := h.at_ (List.getElem?_eq_some_iff.1 hx).1
  rw [hx] at hq
  injection hq with hq
  subst hq
  rw [e] at e'
  injection e' with e'
  injection e' with e1 e2
  subst e1 e2
  exact ⟨hb, c0, c1, c2, c3⟩

set_option maxRecDepth 100000 in
set_option maxHeartbeats 4000000 in
theorem firstRace_c (A : Option Addr) (c : Nat) (l : List Acc) (w : World) (hA : RdQ w w.heap.size A l) (hc : l.length ≤ c) (hl : l.length ≤ 1000000000) :
    Calls Try.prog 106 #[.slice A l.length c] w fun e w' => ∃ i k : Int, e = .returned (.tuple #[.int .i64 i, .int .i64 k, .bool (raceB l)]) ∧ Below w.heap.size w w' := by
  go_enter Try.func106, Try.ntmps106
  go_wp2
  go_loopw [11] (fun kv wr => ∃ k : Nat, k ≤ l.length ∧ kv = .int .i64 k ∧ Below w.heap.size w wr ∧ Hid (∀ j i, j < k → i < j → ¬ clashAt l i j)) (fun kv _ => l.length - (intOf kv).toNat)
  case atStart => exact ⟨0, Nat.zero_le _, rfl, Below.refl _ _, Lib.hid (fun j i h => by omega)⟩
  case round =>
    obtain ⟨k, hk, rfl, hb, hno⟩ := hrel
    by_cases hlt : k < l.length
    · obtain ⟨b, off, x, rfl, hbB, hx, c0, c1, c2, c3⟩ := (hA.below hb).at_ hlt
      have hbs := hb.size
      have hkI : (k : Int) < (l.length : Int) := by omega
      have hkc : (k : Int) ≤ (c : Int) := by omega
      have HX := Lib.hid hx
      have hbb : b < wr.heap.size := by omega
      clear hx
      go_wp2
      obtain ⟨wo, how⟩ : ∃ z, z = wr.alloc (.cells #[.int .i64 x.who, .int .i64 x.cell, .bool x.wr, .int .i64 x.ph] 147) := ⟨_, rfl⟩
      have hwob : Below w.heap.size w wo := by rw [how]; exact hb.alloc hbs _
      have hn := heap_alloc_new wr (.cells #[.int .i64 x.who, .int .i64 x.cell, .bool x.wr, .int .i64 x.ph] 147)
      rw [← how] at hn
      have hws : wr.heap.size < wo.heap.size := lt_of_block hn
      rw [← how]
      generalize wr.heap.size = xb at *
      clear c0 c1 c2 c3 how
      clear hb
      obtain ⟨w0, hw0⟩ : ∃ z, z = wo := ⟨wo, rfl⟩
      subst hw0
      go_loopw [20] (fun iv wi => ∃ i : Nat, i ≤ k ∧ iv = .int .i64 i ∧ Below w0.heap.size w0 wi ∧ Hid (∀ j, j < i → ¬ clashAt l j k)) (fun iv _ => k - (intOf iv).toNat)
      case atStart => exact ⟨0, Nat.zero_le _, rfl, Below.refl _ _, Lib.hid (fun j h => by omega)⟩
      case round =>
        obtain ⟨i, hi, rfl, hbi, hni⟩ := hrel
        have hbi2 := below_trans hwob (Nat.le_refl _) hbi
        have d0 : wr.cell? ⟨xb, 0, none⟩ = some (.int .i64 x.who) := cell_kept hbi (cell_of_heap hn 0)
        have d1 : wr.cell? ⟨xb, 1, none⟩ = some (.int .i64 x.cell) := cell_kept hbi (cell_of_heap hn 1)
        have d2 : wr.cell? ⟨xb, 2, none⟩ = some (.bool x.wr) := cell_kept hbi (cell_of_heap hn 2)
        have d3 : wr.cell? ⟨xb, 3, none⟩ = some (.int .i64 x.ph) := cell_kept hbi (cell_of_heap hn 3)
        by_cases hik : i < k
        · have hil : i < l.length := by omega
          have hy : l[i]? = some (l[i]) := List.getElem?_eq_getElem hil
          generalize l[i] = y at hy
          obtain ⟨-, e0, e1, e2, e3⟩ := (hA.below hbi2).sub hy rfl
          have hikI : (i : Int) < (k : Int) := by omega
          have HY := Lib.hid hy
          have HCL := Lib.hid (show clashI y.who y.cell x.who x.cell y.ph x.ph y.wr x.wr = clashA y x from rfl)
          have hbis := hbi2.size
          have hxw : xb < wr.heap.size := by have := hbi.size; omega
          clear hy
          go_wp2_with fail
          refine (clash_c y.who y.cell x.who x.cell y.ph x.ph y.wr x.wr _).mono ?_
          rintro e w5 ⟨rfl, hb5⟩
          rw [HCL.out]
          have hb6 := below_trans (Below.alloc (Below.refl wr.heap.size wr) (Nat.le_refl _) (.cells #[.int .i64 y.who, .int .i64 y.cell, .bool y.wr, .int .i64 y.ph] 147)) (by simp) hb5
          have hb7 := below_trans hbi (Nat.le_refl _) hb6
          cases hcl : clashA y x with
          | true =>
            have HR := Lib.hid (race_yes hik HY.out HX.out hcl)
            clear hcl
            go_wp2
            go_ret3
            rw [HR.out]
            exact ⟨_, _, rfl, below_trans hwob (Nat.le_refl _) hb7⟩
          | false =>
            have HN := Lib.hid (show ∀ j, j < i + 1 → ¬ clashAt l j k from fun j hj => by
              by_cases e : j = i
              · subst e
                rintro ⟨a, b, ha, hb, hh⟩
                rw [HY.out] at ha
                rw [HX.out] at hb
                injection ha with ha
                injection hb with hb
                subst ha hb
                rw [hcl] at hh
                cases hh
              · exact hni.out j (by omega))
            clear hcl
            go_wp2
            go_roundw
            case rel => exact ⟨i + 1, by omega, by go_num, hb7, HN⟩
            case measure => simp [intOf]; omega
        · obtain rfl : i = k := by omega
          go_wp2
          go_roundw
          case rel => exact ⟨i + 1, by omega, by go_num, hbi2, Lib.hid (fun j i' hj hi' => by
            by_cases e : j = i
            · subst e; exact hni.out i' hi'
            · exact hno.out j i' (by omega) hi')⟩
          case measure => simp [intOf]; omega
    · obtain rfl : k = l.length := by omega
      have HR := Lib.hid (race_no (fun k i h1 h2 => hno.out k i h1 h2))
      go_wp2
      go_ret3
      rw [HR.out]
      exact ⟨_, _, rfl, hb⟩

theorem OR.cap4 {w : World} {base e size n c : Nat} {A : Option Addr} {xs : List Value} (h : OR w base e size A n c xs) : n ≤ c := by
  rcases h.2 with ⟨hv, h0⟩ | ⟨g, cap, cur, hv, -, -, h4, -⟩
  · omega
  · injection hv with _ _ h3
    omega

noncomputable def reasonOf (l : List Cd) (n : Int) (m : List Int) : Int := if lockOk l n m then (if splitB l n.toNat (lockS l n.toNat m).beats then 2 else if raceB (accsOf l n m) then 3 else 0) else 1

theorem lockAccs_len {l : List Cd} {n : Int} {m : List Int} (h : lockOk l n m = true) : (lockS l n.toNat m).accs.length ≤ 20480 := by
  have h1 := (run_bd (treeOf l) 0 (2 ^ n.toNat - 1) (LS.start n.toNat m) (Bd.start _ _)).1
  simp only [lockOk, Bool.and_eq_true] at h
  have h2 := trace_len h.1 n.toNat m
  have e : lockS l n.toNat m = (treeOf l).run 0 (2 ^ n.toNat - 1) (LS.start n.toNat m) := rfl
  rw [← e] at h1
  omega

set_option maxRecDepth 100000 in
set_option maxHeartbeats 4000000 in
theorem reason_c (A Am : Option Addr) (ca cm : Nat) (l : List Cd) (n : Int) (m : List Int) (w : World) (hA : RdC w w.heap.size A l) (hM : RdI w w.heap.size Am m) (hl : l.length ≤ 1000000000) (hml : m.length ≤ 1000000000) :
    Calls Try.prog 71 #[.slice A l.length ca, .int .i64 n, .slice Am m.length cm] w fun e w' => e = .returned (.int .i64 (reasonOf l n m)) ∧ Below w.heap.size w w' := by
  go_enter Try.func71, Try.ntmps71
  go_wp2_with fail
  refine (runLock_c A Am ca cm l n m w hA hM hl hml).mono ?_
  rintro e w1 (⟨hok, hr⟩ | ⟨hok, rfl, hb1⟩)
  · obtain ⟨z, T, tc, U, uc, rfl, hzB, hzl, hzn, hS, hb1⟩ := hr
    have hn := hok
    simp only [lockOk, Bool.and_eq_true] at hn
    have hn1 := inR_iff.1 hn.2.1
    have HR := Lib.hid (show reasonOf l n m = (if splitB l n.toNat (lockS l n.toNat m).beats then 2 else if raceB (lockS l n.toNat m).accs then 3 else 0) by simp [reasonOf, accsOf, hok])
    have hlen := trace_len hn.1 n.toNat m
    have hal := lockAccs_len hok
    have hin : ∀ q ∈ (lockS l n.toNat m).beats, q.1 < z.l.length ∧ q.2 < 256 := fun q hq => by rw [hzl]; exact lock_in hok q hq
    have hsp := Lib.hid (split_c hS hin hlen (by rw [hzl]; exact hl) (by omega) (by rw [hzB]; exact hb1.size))
    have HZ := Lib.hid (show splitB z.l z.n (lockS l n.toNat m).beats = splitB l n.toNat (lockS l n.toNat m).beats by rw [hzl, hzn])
    have hs1 : w.heap.size ≤ w1.heap.size := hb1.size
    have HS := Lib.hid hS
    clear hS hok hn hzn hlen hin hzl
    go_wp2_with fail
    refine hsp.out.mono ?_
    rintro e w2 ⟨p, mm, rfl, hb2⟩
    have hbw := below_trans hb1 (Nat.le_refl _) hb2
    have hS2 := HS.out.ext (Ext.of_below hb2) (by rw [hzB]; exact hs1)
    obtain ⟨-, -, -, -, c4, -, -⟩ := hS2.cells
    rw [HZ.out]
    have hX := Ext.alloc w2 (.cells #[.int .i64 p, .int .i64 mm] 97)
    have c4' := hX.cell c4
    have hQ : RdQ w2 w2.heap.size U (lockS l n.toNat m).accs := OR.reads hS2.acc
    have hcap := OR.cap4 hS2.acc
    have HQ := Lib.hid ((hQ.below hX.below).more hX.size)
    have hbX : Below w.heap.size w (w2.alloc (.cells #[.int .i64 p, .int .i64 mm] 97)) := hbw.alloc hbw.size _
    clear hS2 c4 hQ HS hsp HZ
    generalize (lockS l n.toNat m).accs = qs at *
    generalize splitB l n.toNat (lockS l n.toNat m).beats = sb at *
    cases sb with
    | true =>
      go_wp2
      go_ret
      exact ⟨by rw [HR.out]; rfl, hbX⟩
    | false =>
      go_wp2_with fail
      refine (firstRace_c U uc qs _ HQ.out hcap (by omega)).mono ?_
      rintro e w3 ⟨i, k, rfl, hb3⟩
      have hb4 := below_trans hbX (by simp) hb3
      generalize raceB qs = rb at *
      cases rb with
      | true =>
        go_wp2
        go_ret
        exact ⟨by rw [HR.out]; rfl, hb4⟩
      | false =>
        go_wp2
        go_ret
        exact ⟨by rw [HR.out]; rfl, hb4⟩
  · have HR := Lib.hid (show reasonOf l n m = 1 by simp [reasonOf, hok])
    clear hok
    go_wp2
    go_ret
    exact ⟨reti (by rw [HR.out]), hb1⟩

theorem isSafe_c (A Am : Option Addr) (ca cm : Nat) (l : List Cd) (n : Int) (m : List Int) (w : World) (hA : RdC w w.heap.size A l) (hM : RdI w w.heap.size Am m) (hl : l.length ≤ 1000000000) (hml : m.length ≤ 1000000000) :
    Calls Try.prog 33 #[.slice A l.length ca, .int .i64 n, .slice Am m.length cm] w fun e w' => e = .returned (.bool (reasonOf l n m == 0)) ∧ Below w.heap.size w w' := by
  go_enter Try.func33, Try.ntmps33
  go_wp2_with fail
  refine (reason_c A Am ca cm l n m w hA hM hl hml).mono ?_
  rintro e w1 ⟨rfl, b1⟩
  go_wp2
  go_ret
  exact ⟨rfl, b1⟩

end Go.Proofs.Ytelbfeidpcojmaa
