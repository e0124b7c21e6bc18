/- Part 18 of what the claim needs. -/
import Derived.Test.YtelbfeidpcojmaaGreatSa3
import Derived.Test.YtelbfeidpcojmaaGreatSa4
import Derived.Test.YtelbfeidpcojmaaGreatSa14
import Derived.Test.YtelbfeidpcojmaaGreatSa16
import Derived.Test.YtelbfeidpcojmaaGreatSa17
import Derived.Deep.RegionHeld3
namespace Go.Proofs.YtelbfeidpcojmaaGreat
open Go.RowKit
set_option linter.unusedVariables false
set_option linter.unusedSimpArgs false

def DRunO (w : World) (B g K : Nat) (e : Ending) (w' : World) : Prop :=
  ∃ (A : Option Addr) (n c : Nat) (lanes : Int) (Am : Option Addr) (m cm : Nat), e = .returned (.tuple #[.slice A n c, .int .i64 lanes, .slice Am m cm]) ∧ n ≤ 200000 ∧ m ≤ 40 ∧ 0 ≤ lanes ∧ lanes ≤ 9 ∧
    DSx w B g K A n c w' ∧ ∃ l : List Int, OI w' w.heap.size Am m cm l

set_option maxRecDepth 100000 in
set_option maxHeartbeats 8000000 in
theorem l20RunO_c {w : World} {B g K : Nat} (h : RdS w B g K) (hK : K ≤ 1000000) (n : Nat) (hn : n ≤ 1000) :
    Calls Tryz.prog 18 #[.pointer (some ⟨g, 0, none⟩), .int .i64 n] w (DRunO w B g (K + 600000)) := by
  go_enter Tryz.func18, Tryz.ntmps18
  go_wp2_with fail
  refine (l20Program_c h (by omega) n (by omega)).mono ?_
  rintro e w2 ⟨A2, n2, c2, rfl, hn2, D2⟩
  have hgl := h.lt
  clear h
  go_wp2_with fail
  refine (pick_i D2.rd (by omega) _ (by decide) (by decide)).mono ?_
  rintro e w3 ⟨v1, rfl, hv1, R3, g3, -, -⟩
  have D3 := D2.pick R3 g3
  have hq1 : IntKind.i64.wrap (1 + (v1 : Int)) = 1 + (v1 : Int) := IntWalk.i64_in _ (by omega)
  clear D2 R3 g3
  go_wp2_with fail
  refine (odd_c D3.rd (by omega) 9 (by omega)).mono ?_
  rintro e w4 ⟨v2, rfl, -, R4, g4, -⟩
  have D4 := D3.pick R4 g4
  clear D3 R4 g4
  cases v2 with
  | false =>
    go_wp2_with fail
    refine (odd_c D4.rd (by omega) n (by omega)).mono ?_
    rintro e w5 ⟨v3, rfl, -, R5, g5, -⟩
    have D5 := D4.pick R5 g5
    have hgl5 : g < w5.heap.size := R5.lt
    clear D4 R5 g5
    cases v3 with
    | false =>
      go_wp2_with fail
      refine (l20Memory_c D5.rd (by omega) n (by omega)).mono ?_
      rintro e w9 ⟨Am, m, cm, rfl, hm, DM⟩
      have D9 := D5.pick DM.rd DM.gr
      have DM2 := DM
      obtain ⟨l, hl, -⟩ := DM2
      have hl2 := OR.mono hl D5.size
      clear DM D5
      go_wp2
      go_ret3
      exact ⟨A2, n2, c2, _, Am, m, cm, rfl, hn2, hm, by omega, by omega, D9.more (by omega), l, hl2⟩
    | true =>
      have D6 := D5.alloc (.cells #[.int .i64 0, .int .i64 9] 3)
      have hN := heap_alloc_new w5 (.cells #[.int .i64 0, .int .i64 9] 3)
      go_wp2_with fail
      generalize w5.alloc (.cells #[.int .i64 0, .int .i64 9] 3) = w6 at *
      refine (pick_i D6.rd (by omega) _ (by decide) (by decide)).mono ?_
      rintro e w7 ⟨v6, rfl, hv6, R7, g7, -, -⟩
      have D7 := D6.pick R7 g7
      have hN7 := (g7.block _ (lt_of_block hN) (fun e => absurd (Option.some.inj e) (by omega))).trans hN
      obtain ⟨y, hy0, hy9, hy⟩ : ∃ y : Int, 0 ≤ y ∧ y ≤ 9 ∧ w7.cell? ⟨w5.heap.size, v6, none⟩ = some (.int .i64 y) := by
        have e : v6 = 0 ∨ v6 = 1 := by omega
        rcases e with rfl | rfl
        · exact ⟨0, by omega, by omega, cell_of_heap hN7 0⟩
        · exact ⟨9, by omega, by omega, cell_of_heap hN7 1⟩
      clear D5 D6 R7 g7 hN hN7
      go_wp2_with fail
      refine (l20Memory_c D7.rd (by omega) n (by omega)).mono ?_
      rintro e w9 ⟨Am, m, cm, rfl, hm, DM⟩
      have D9 := D7.pick DM.rd DM.gr
      have DM2 := DM
      obtain ⟨l, hl, -⟩ := DM2
      have hl2 := OR.mono hl D7.size
      clear DM D7
      go_wp2
      go_ret3
      exact ⟨A2, n2, c2, _, Am, m, cm, rfl, hn2, hm, by omega, by omega, D9.more (by omega), l, hl2⟩
  | true =>
    go_wp2_with fail
    refine (odd_c D4.rd (by omega) n (by omega)).mono ?_
    rintro e w5 ⟨v3, rfl, -, R5, g5, -⟩
    have D5 := D4.pick R5 g5
    have hgl5 : g < w5.heap.size := R5.lt
    clear D4 R5 g5
    cases v3 with
    | false =>
      go_wp2_with fail
      refine (l20Memory_c D5.rd (by omega) n (by omega)).mono ?_
      rintro e w9 ⟨Am, m, cm, rfl, hm, DM⟩
      have D9 := D5.pick DM.rd DM.gr
      have DM2 := DM
      obtain ⟨l, hl, -⟩ := DM2
      have hl2 := OR.mono hl D5.size
      clear DM D5
      go_wp2
      go_ret3
      exact ⟨A2, n2, c2, _, Am, m, cm, rfl, hn2, hm, by omega, by omega, D9.more (by omega), l, hl2⟩
    | true =>
      have D6 := D5.alloc (.cells #[.int .i64 0, .int .i64 9] 3)
      have hN := heap_alloc_new w5 (.cells #[.int .i64 0, .int .i64 9] 3)
      go_wp2_with fail
      generalize w5.alloc (.cells #[.int .i64 0, .int .i64 9] 3) = w6 at *
      refine (pick_i D6.rd (by omega) _ (by decide) (by decide)).mono ?_
      rintro e w7 ⟨v6, rfl, hv6, R7, g7, -, -⟩
      have D7 := D6.pick R7 g7
      have hN7 := (g7.block _ (lt_of_block hN) (fun e => absurd (Option.some.inj e) (by omega))).trans hN
      obtain ⟨y, hy0, hy9, hy⟩ : ∃ y : Int, 0 ≤ y ∧ y ≤ 9 ∧ w7.cell? ⟨w5.heap.size, v6, none⟩ = some (.int .i64 y) := by
        have e : v6 = 0 ∨ v6 = 1 := by omega
        rcases e with rfl | rfl
        · exact ⟨0, by omega, by omega, cell_of_heap hN7 0⟩
        · exact ⟨9, by omega, by omega, cell_of_heap hN7 1⟩
      clear D5 D6 R7 g7 hN hN7
      go_wp2_with fail
      refine (l20Memory_c D7.rd (by omega) n (by omega)).mono ?_
      rintro e w9 ⟨Am, m, cm, rfl, hm, DM⟩
      have D9 := D7.pick DM.rd DM.gr
      have DM2 := DM
      obtain ⟨l, hl, -⟩ := DM2
      have hl2 := OR.mono hl D7.size
      clear DM D7
      go_wp2
      go_ret3
      exact ⟨A2, n2, c2, _, Am, m, cm, rfl, hn2, hm, by omega, by omega, D9.more (by omega), l, hl2⟩

theorem or_pick {w w' : World} {base e size n c g : Nat} {A : Option Addr} {xs : List Value} (h : OR w base e size A n c xs) (hb : g < base) (hg : w.grownBy w' (some g)) : OR w' base e size A n c xs := by
  refine OR.kept h hg ?_
  cases ho : Value.ownBlock (.slice A n c) with
  | none => exact .inl rfl
  | some k => exact .inr (fun e => by have := (OR.block h k ho).1; have := Option.some.inj e; omega)
theorem or_other {w w' : World} {base e size n c base' e' size' n' c' : Nat} {A A' : Option Addr} {xs xs' : List Value} (h : OR w base e size A n c xs) (h' : OR w base' e' size' A' n' c' xs') (hne : e' ≠ e) (hg : w.grownBy w' (Value.ownBlock (.slice A' n' c'))) : OR w' base e size A n c xs := by
  rcases h.2 with ⟨hv, hn⟩ | ⟨g, cap, cur, hv, _, hgb, _⟩
  · exact ⟨h.1, .inl ⟨hv, hn⟩⟩
  · refine OR.kept h hg (.inr fun e => ?_)
    rw [hv] at e
    have e' : Value.ownBlock (.slice A' n' c') = some g := e.symm
    exact own_ne h' hgb hne e'
theorem grown_own {w0 w w' : World} {g : Nat} {row : Option Nat} (h : w0.grownBy w (some g)) (hg : w.grownBy w' row) (hr : ∀ k, row = some k → w0.heap.size ≤ k) : w0.grownBy w' (some g) :=
  ⟨hg.os.trans h.os, hg.tape.trans h.tape, hg.output.trans h.output, Nat.le_trans h.size hg.size, fun k hk hne => (hg.block k (by have := h.size; omega) (fun e => by have := hr k e.symm; omega)).trans (h.block k hk hne)⟩


theorem results_tmp4 {fn : Func} {t u v x : Tmp} (h : fn.results = #[.tmp t, .tmp u, .tmp v, .tmp x]) (tmps : Array Value) (P : Program) (w : World) :
    (results fn tmps).run P w = .ok (.tuple #[tmps.getD t undef, tmps.getD u undef, tmps.getD v undef, tmps.getD x undef]) w := by
  simp [results, h]
theorem DSx.whole {w w1 w2 : World} {B g K n c : Nat} {A : Option Addr} (hB : Below w.heap.size w w1) (hg : w.heap.size ≤ g) (D : DSx w1 B g K A n c w2) :
    ∃ l : List Cd, l.length = n ∧ RdC w2 w2.heap.size A l ∧ Below w.heap.size w w2 := by
  obtain ⟨x, h1, h2, h3, h4⟩ := D
  obtain rfl := OC.len h1
  exact ⟨x, rfl, OC.rd h1, hB.grown h3 hB.size (fun k e => by cases e; exact hg)⟩


theorem make_rowsD (n : Nat) (hn : n ≤ 1000000000000) (w : World) :
    (Instr.makeSlice 25 (.int .i64 (n : Int)) (.int .i64 (n : Int))).run Tryz.prog w = .ok (.slice (some ⟨w.heap.size, 0, none⟩) n n) (w.alloc (.cells (zeroRow (.slice none 0 0) n) 24)) := by
  obtain ⟨i0, hi, hz0, hz1, hz2⟩ := info_parts infoRows
  have := run_make_rowN (P := Tryz.prog) 25 24 i0 _ Tryz.underlying25 hi hz0 .i64 .i64 n n (Nat.le_refl _) (by rw [hz2]; omega) (by omega) w
  rw [hz1, Nat.mul_one] at this
  exact this

/-- Programs that are being drawn. -/
structure DOx (w0 : World) (B g K : Nat) (P : Option Addr) (pc : Nat) (As : Nat → Option Addr) (cs : Nat → Nat) (ps : List (List Int)) (w : World) : Prop where
  own : OR w w0.heap.size 24 1 P ps.length pc (intsV As cs ps)
  inn : ∀ i, i < ps.length → OI w w0.heap.size (As i) (ps.getD i []).length (cs i) (ps.getD i [])
  len : ∀ i, i < ps.length → (ps.getD i []).length ≤ 60
  rd : RdS w B g K
  gr : w0.grownBy w (some g)
  lt : g < w0.heap.size
theorem intsV_snoc (As : Nat → Option Addr) (cs : Nat → Nat) (ps : List (List Int)) (A : Option Addr) (c : Nat) (l : List Int) :
    intsV (fun i => if i = ps.length then A else As i) (fun i => if i = ps.length then c else cs i) (ps ++ [l]) = intsV As cs ps ++ [.slice A l.length c] := by
  unfold intsV
  rw [List.length_append, List.length_singleton, List.range_succ, List.map_append]
  congr 1
  · refine List.map_congr_left fun i hi => ?_
    have hi' : i < ps.length := List.mem_range.1 hi
    have e : ¬ i = ps.length := by omega
    simp [e, List.getD_eq_getElem?_getD, List.getElem?_append_left hi']
  · simp [List.getD_eq_getElem?_getD]
section
variable {w0 w w' : World} {B g K pc : Nat} {P : Option Addr} {As : Nat → Option Addr} {cs : Nat → Nat} {ps : List (List Int)}
theorem DOx.more (h : DOx w0 B g K P pc As cs ps w) {K' : Nat} (hK : K ≤ K') : DOx w0 B g K' P pc As cs ps w := ⟨h.own, h.inn, h.len, h.rd.more hK, h.gr, h.lt⟩
theorem DOx.pick (h : DOx w0 B g K P pc As cs ps w) {K' : Nat} (hR : RdS w' B g K') (hg : w.grownBy w' (some g)) : DOx w0 B g K' P pc As cs ps w' :=
  ⟨or_pick h.own h.lt hg, fun i hi => or_pick (h.inn i hi) h.lt hg, h.len, hR, h.gr.trans hg, h.lt⟩
theorem DOx.alloc (h : DOx w0 B g K P pc As cs ps w) (o : Obj) : DOx w0 B g K P pc As cs ps (w.alloc o) :=
  ⟨OR.alloc h.own o, fun i hi => OR.alloc (h.inn i hi) o, h.len, h.rd.alloc o, h.gr.trans (World.grownBy_alloc _ _ _), h.lt⟩
theorem DOx.start (h : RdS w B g K) : DOx w B g K (some ⟨w.heap.size, 0, none⟩) 0 (fun _ => none) (fun _ => 0) [] (w.alloc (.cells #[] 24)) :=
  ⟨OR.lit w w.heap.size 24 1 0 #[] (Nat.le_refl _) (by omega) rfl, fun i hi => by simp at hi, fun i hi => by simp at hi, h.alloc _, World.grownBy_alloc _ _ _, h.lt⟩
theorem DOx.rdp (h : DOx w0 B g K P pc As cs ps w) : RdO w w.heap.size P As cs ps := ⟨OR.reads h.own, fun i hi => OR.reads (h.inn i hi)⟩
theorem DOx.cap (h : DOx w0 B g K P pc As cs ps w) : ps.length ≤ pc := OR.cap_ h.own
theorem DOx.snoc (h : DOx w0 B g K P pc As cs ps w) {w3 w5 : World} {K2 n2 c2 pc' : Nat} {A2 P' : Option Addr} (D2 : DIx w B g K2 A2 n2 c2 w3) (hn2 : n2 ≤ 60)
    (hg : (w3.alloc (.cells #[.slice A2 n2 c2] 24)).grownBy w5 (Value.ownBlock (.slice P ps.length pc)))
    (ho : OR w5 w0.heap.size 24 1 P' (ps.length + 1) pc' (intsV As cs ps ++ [.slice A2 n2 c2])) : ∃ (ps' : List (List Int)) (As' : Nat → Option Addr) (cs' : Nat → Nat), ps'.length = ps.length + 1 ∧ DOx w0 B g K2 P' pc' As' cs' ps' w5 := by
  obtain ⟨l, h1, h2, h3, h4⟩ := D2
  obtain rfl := OI.len h1
  have hD := (h.pick h2 h3).alloc (.cells #[.slice A2 l.length c2] 24)
  have hl1 : (ps ++ [l]).length = ps.length + 1 := by simp
  refine ⟨ps ++ [l], fun i => if i = ps.length then A2 else As i, fun i => if i = ps.length then c2 else cs i, hl1, ?_, fun i hi => ?_, fun i hi => ?_, ?_, ?_, h.lt⟩
  · rw [intsV_snoc, hl1]; exact ho
  · rw [hl1] at hi
    by_cases e : i = ps.length
    · subst e
      have e2 : (ps ++ [l]).getD ps.length [] = l := by simp [List.getD_eq_getElem?_getD]
      rw [e2]
      simp only [if_true]
      exact or_other (OR.alloc (OR.mono h1 h.gr.size) _) hD.own (by decide) hg
    · have e2 : (ps ++ [l]).getD i [] = ps.getD i [] := by simp [List.getD_eq_getElem?_getD, List.getElem?_append_left (show i < ps.length by omega)]
      rw [e2]
      simp only [e, if_false]
      exact or_other (hD.inn i (by omega)) hD.own (by decide) hg
  · rw [hl1] at hi
    by_cases e : i = ps.length
    · subst e
      have e2 : (ps ++ [l]).getD ps.length [] = l := by simp [List.getD_eq_getElem?_getD]
      rw [e2]; exact hn2
    · have e2 : (ps ++ [l]).getD i [] = ps.getD i [] := by simp [List.getD_eq_getElem?_getD, List.getElem?_append_left (show i < ps.length by omega)]
      rw [e2]; exact h.len i (by omega)
  · refine hD.rd.off hg fun k e => ?_
    have := (OR.block hD.own k e).1
    have := hD.rd.base
    have := h.lt
    omega
  · exact grown_own hD.gr hg fun k e => (OR.block hD.own k e).1
end
theorem rep_getI {n j : Nat} (h : j < n) : (List.replicate n ([] : List Int)).getD j [] = [] := by
  rw [List.getD_eq_getElem?_getD, List.getElem?_replicate, if_pos h]; rfl
/-- Seven empty programs. -/
theorem rows_zero (w : World) : RdO (w.alloc (.cells (zeroRow (.slice none 0 0) 7) 24)) (w.heap.size + 1) (some ⟨w.heap.size, 0, none⟩) (fun _ => none) (fun _ => 0) (List.replicate 7 []) := by
  have hn := heap_alloc_new w (.cells (zeroRow (.slice none 0 0) 7) 24)
  refine ⟨⟨by simp [intsV], fun _ => ⟨w.heap.size, 0, rfl, by omega, fun j u hu => ?_⟩⟩, fun i hi => ?_⟩
  · have hj : j < 7 := by
      have := (List.getElem?_eq_some_iff.1 hu).1
      simpa [intsV] using this
    have e : (intsV (fun _ => none) (fun _ => 0) (List.replicate 7 ([] : List Int)))[j]? = some (.slice none 0 0) := by
      rw [intsV_get (by rw [List.length_replicate]; exact hj), rep_getI hj]
      rfl
    rw [e] at hu
    injection hu with hu
    subst hu
    rw [Nat.zero_add, cell_of_heap hn j]
    have hz : (zeroRow (.slice none 0 0) 7).toList = List.replicate 7 (.slice none 0 0) := toList_madeCells_one _ _
    rw [← Array.getElem?_toList, hz, List.getElem?_replicate, if_pos hj]
  · have hi' : i < 7 := by rw [List.length_replicate] at hi; exact hi
    rw [rep_getI hi']
    exact Reads.none_

section
variable {w : World} {ops : Array Oper} {rest : List Oper} {o : Oper} {a : Act} {Q : Exit → Act → World → Prop}
/-- append of one program. -/
theorem app_o (hgd : o.guard = none) (s x : Operand) (ho : o.op = .call { callee := .builtin .append, args := #[s, x], argTypes := #[25, 25] })
    (base : Nat) (A : Option Addr) (n c : Nat) (vs : List Value) (h1 : OR w base 24 1 A n c vs) (hs : a.eval s = .slice A n c)
    (A' : Option Addr) (nn c' gb : Nat) (hx : a.eval x = .slice (some ⟨gb, 0, none⟩) 1 1) (hc : w.cell? ⟨gb, 0, none⟩ = some (.slice A' nn c')) (hn : n + 1 ≤ 1000000000000) (hbase : base ≤ w.heap.size)
    (hK : ∀ A2 c2 w2, OR w2 base 24 1 A2 (n + 1) c2 (vs ++ [.slice A' nn c']) → w.grownBy w2 (Value.ownBlock (.slice A n c)) → wpList Tryz.prog ops Q rest (a.put o.dst (.slice A2 (n + 1) c2)) w2) :
    wpList Tryz.prog ops Q (o :: rest) a w := by
  refine app_row 25 24 _ 1 24 Tryz.underlying25 infoRows rfl (by decide) (by decide) hgd s x ho base A n c vs h1 hs gb 1 1 [.slice A' nn c'] hx rfl (fun j u hu => ?_) (by intro u hu; simp at hu; subst hu; rfl) (by omega) hbase (fun A2 c2 w2 hr hg => hK A2 c2 w2 hr hg)
  match j, hu with
  | 0, hu => simp at hu; subst hu; exact hc
end

def SameP (w : World) (e : Ending) (w' : World) : Prop :=
  ∃ (l : List Cd) (A : Option Addr) (c : Nat) (n : Int) (m : List Int) (Am : Option Addr) (cm : Nat) (os : List (List Int)) (P : Option Addr) (pc : Nat) (As : Nat → Option Addr) (cs : Nat → Nat), e = .returned (.tuple #[.slice A l.length c, .int .i64 n, .slice Am m.length cm, .slice P os.length pc]) ∧ l.length ≤ 200000 ∧ os.length ≤ 7 ∧ m.length ≤ 40 ∧ (0 ≤ n ∧ n ≤ 9) ∧ os.length ≤ pc ∧
    (∀ i, i < os.length → (os.getD i []).length ≤ 60) ∧ RdC w' w'.heap.size A l ∧ RdI w' w'.heap.size Am m ∧ RdO w' w'.heap.size P As cs os ∧ Below w.heap.size w w'
def DORel (w1 w2 : World) (B g : Nat) (Am : Option Addr) (m cm : Nat) (l : List Int) (A2 : Option Addr) (c2 : Nat) (x : List Cd) (ov kv : Value) (wr : World) : Prop :=
  ∃ (k : Nat) (ps : List (List Int)) (P : Option Addr) (pc : Nat) (As : Nat → Option Addr) (cs : Nat → Nat), kv = .int .i64 k ∧ ov = .slice P ps.length pc ∧ ps.length + k ≤ 3 ∧ DOx w2 B g (2600000 - 600000 * k) P pc As cs ps wr ∧ OI wr w1.heap.size Am m cm l ∧ OC wr w1.heap.size A2 x.length c2 x

set_option maxRecDepth 100000 in
set_option maxHeartbeats 8000000 in
theorem drawSameMemory_c (A : Option Addr) (c : Nat) (bs : List Int) (w : World) (hA : Reads w w.heap.size 1 A bs.length (bs.map (.int .u8))) (hb : ∀ x ∈ bs, 0 ≤ x ∧ x ≤ 255) (hl : bs.length ≤ 9223372036854775807) (hcap : bs.length ≤ c) :
    Calls Tryz.prog 5 #[.slice A bs.length c] w (SameP w) := by
  have hmk : ∀ w : World, (Instr.makeSlice 25 (.int .i64 7) (.int .i64 7)).run Tryz.prog w = .ok (.slice (some ⟨w.heap.size, 0, none⟩) 7 7) (w.alloc (.cells (zeroRow (.slice none 0 0) 7) 24)) := make_rowsD 7 (by omega)
  go_enter Tryz.func5, Tryz.ntmps5
  go_wp2_with fail
  refine (l20Open_c A c bs w hA hb hl hcap).mono ?_
  rintro e w1 ⟨rfl, hR, hB, hs⟩
  have hgl1 : w.heap.size < w1.heap.size := hR.lt
  go_wp2_with fail
  refine (l20RunO_c hR (by omega) 20 (by omega)).mono ?_
  rintro e w2 ⟨A2, n2, c2, lanes, Am, m, cm, rfl, hn2, hm, h0, h9, D, l, hOI⟩
  obtain ⟨N, rfl⟩ := Int.eq_ofNat_of_zero_le h0
  have hN9 : N ≤ 9 := by omega
  have hR2 := D.rd
  have hg12 := D.gr
  have hs12 := hg12.size
  have hlm : l.length = m := OI.len hOI
  subst hlm
  obtain ⟨x, hOC, -, -, -⟩ := D
  obtain rfl := OC.len hOC
  clear hR
  have DP := DOx.start hR2
  have hOI2 : OI (w2.alloc (.cells #[] 24)) w1.heap.size Am l.length cm l := OR.alloc hOI _
  have hOC2 : OC (w2.alloc (.cells #[] 24)) w1.heap.size A2 x.length c2 x := OR.alloc hOC _
  clear hOI hOC hR2
  go_wp2_with fail
  generalize w2.alloc (.cells #[] 24) = w3 at *
  refine (pick_i DP.rd (by omega) _ (by decide) (by decide)).mono ?_
  rintro e w4 ⟨v, rfl, hv, R4, g4, -, -⟩
  have DP4 := DP.pick R4 g4
  have hOI4 : OI w4 w1.heap.size Am l.length cm l := or_pick hOI2 hgl1 g4
  have hOC4 : OC w4 w1.heap.size A2 x.length c2 x := or_pick hOC2 hgl1 g4
  clear DP R4 g4 hOI2 hOC2
  obtain ⟨pb, hpb⟩ : ∃ p, (some ⟨w2.heap.size, 0, none⟩ : Option Addr) = p := ⟨_, rfl⟩
  rw [hpb] at DP4 ⊢
  clear hpb
  go_wp2
  go_loopw [10, 11] (fun ov kv wr => DORel w1 w2 w.heap.size w.heap.size Am l.length cm l A2 c2 x ov kv wr) (fun _ kv _ => (intOf kv).toNat)
  case atStart => exact ⟨v, [], pb, 0, _, _, rfl, rfl, by simp; omega, DP4.more (by omega), hOI4, hOC4⟩
  case round =>
    clear DP4 hOI4 hOC4
    obtain ⟨k, ps, P, pc, As, cs, rfl, rfl, hpk, DP, hO, hC⟩ := hrel
    by_cases hlt : 0 < k
    · have hkI : (0 : Int) < (k : Int) := by omega
      have hq : IntKind.i64.wrap ((k : Int) - 1) = ((k - 1 : Nat) : Int) := by rw [IntWalk.i64_in _ (by omega)]; omega
      go_wp2_with fail
      refine (l20Order_c DP.rd (by omega) N 20 hN9 (by omega)).mono ?_
      rintro e w5 ⟨A5, n5, c5, rfl, hn5, D5⟩
      have hO5 : OI w5 w1.heap.size Am l.length cm l := or_pick hO hgl1 D5.gr
      have hC5 : OC w5 w1.heap.size A2 x.length c2 x := or_pick hC hgl1 D5.gr
      have hown := Lib.hid ((DP.pick D5.rd D5.gr).alloc (.cells #[.slice A5 n5 c5] 24)).own
      have hsz := (DP.gr.trans D5.gr).size
      go_wp2_with (at_builtin; refine app_o rfl _ _ rfl w2.heap.size P ps.length pc _ hown.out rfl A5 n5 c5 w5.heap.size rfl ?hc ?hn ?hb ?_)
      case hc => simp [go_sem]
      case hn => omega
      case hb => simp; omega
      intro P' pc' w6 ho6 hg6
      have hO6 : OI w6 w1.heap.size Am l.length cm l := or_other (OR.alloc hO5 _) hown.out (by decide) hg6
      have hC6 : OC w6 w1.heap.size A2 x.length c2 x := or_other (OR.alloc hC5 _) hown.out (by decide) hg6
      obtain ⟨ps', As', cs', hl', DP'⟩ := DP.snoc D5 hn5 hg6 ho6
      rw [← hl']
      clear hown hg6 ho6 DP D5 hO hO5 hC hC5
      go_wp2
      go_roundw
      case rel => exact ⟨k - 1, ps', P', pc', As', cs', rfl, rfl, by omega, DP'.more (by omega), hO6, hC6⟩
      case measure => (simp [intOf] <;> omega)
    · obtain rfl : k = 0 := by omega
      go_wp2_with fail
      refine (odd_c DP.rd (by omega) 20 (by omega)).mono ?_
      rintro e w5 ⟨v5, rfl, -, R5, g5, -⟩
      have DP5 := DP.pick R5 g5
      have hO5 : OI w5 w1.heap.size Am l.length cm l := or_pick hO hgl1 g5
      have hC5 : OC w5 w1.heap.size A2 x.length c2 x := or_pick hC hgl1 g5
      have hbel : Below w.heap.size w w5 := hB.grown (hg12.trans DP5.gr) hB.size (fun k e => by cases e; exact Nat.le_refl _)
      have hcap5 := DP5.cap
      have hrp := Lib.hid DP5.rdp
      have hlen5 := Lib.hid DP5.len
      have hM5 := Lib.hid (OI.rd hO5)
      have hA5 := Lib.hid (OC.rd hC5)
      clear DP R5 g5 hO hO5 DP5 hC hC5
      cases v5 with
      | false =>
        go_wp2
        (try simp only [Exit.inBlock, Exit.then])
        refine bodyPost_ret (results_tmp4 rfl _ _ _) rfl ?_
        exact ⟨x, A2, c2, N, l, Am, cm, ps, P, pc, As, cs, rfl, hn2, by omega, hm, ⟨by omega, by omega⟩, hcap5, hlen5.out, hA5.out, hM5.out, hrp.out, hbel⟩
      | true =>
        have hz := Lib.hid (rows_zero w5)
        have hb7 := Below.alloc (Below.refl w5.heap.size w5) (Nat.le_refl _) (.cells (zeroRow (.slice none 0 0) 7) 24)
        have hM7 := Lib.hid ((hM5.out.below hb7).more hb7.size)
        have hA7 := Lib.hid ((hA5.out.below hb7).more hb7.size)
        have hbel7 := below_trans hbel (Nat.le_refl _) hb7
        go_wp2
        (try simp only [Exit.inBlock, Exit.then])
        refine bodyPost_ret (results_tmp4 rfl _ _ _) rfl ?_
        exact ⟨x, A2, c2, N, l, Am, cm, List.replicate 7 [], _, 7, _, _, rfl, hn2, by simp, hm, ⟨by omega, by omega⟩, by simp, fun i hi => by rw [List.length_replicate] at hi; rw [rep_getI hi]; simp, hA7.out, hM7.out, (by have h := hz.out; simpa using h), hbel7⟩


/-! ### slices.Equal -/
set_option maxRecDepth 100000 in
set_option maxHeartbeats 2000000 in
theorem sliceEqual_c (A A2 : Option Addr) (c c2 : Nat) (l m : List Int) (w : World) (hA : RdI w w.heap.size A l) (hA2 : RdI w w.heap.size A2 m) (hl : l.length ≤ 1000000000000) (hm : m.length ≤ 1000000000000) :
    Calls Tryz.prog 28 #[.slice A l.length c, .slice A2 m.length c2] w fun e w' => e = .returned (.bool (intsEq l m)) ∧ Below w.heap.size w w' := by
  by_cases hlen : l.length = m.length
  · rw [← hlen]
    have HL := Lib.hid hlen
    clear hlen
    go_enter Tryz.func28, Tryz.ntmps28
    go_wp2
    go_loopw [13] (fun i wr => ∃ k : Nat, k ≤ l.length ∧ i = .int .i64 k ∧ Hid (intsEq l m = intsEq (l.drop k) (m.drop k)) ∧ Below w.heap.size w wr) (fun i _ => l.length - (intOf i).toNat)
    case atStart => exact ⟨0, Nat.zero_le _, rfl, Lib.hid rfl, Below.refl _ _⟩
    case round =>
      obtain ⟨k, hk, rfl, HE, hb⟩ := hrel
      by_cases hlt : k < l.length
      · obtain ⟨b, off, x, rfl, hbB, hx, c0⟩ := (hA.below hb).at_ hlt
        obtain ⟨b2, off2, y, rfl, hbB2, hy, d0⟩ := (hA2.below hb).at_ (by have := HL.out; omega : k < m.length)
        have HX := Lib.hid hx
        have HY := Lib.hid hy
        clear hx hy
        cases he : x == y with
        | false =>
          have hn : (x != y) = true := by simp [bne, he]
          have HN := Lib.hid he
          clear he
          go_wp2_with fail
          go_quiet (fail)
          go_wp2
          go_ret
          exact ⟨retb (by rw [HE.out, intsEq_step HX.out HY.out, HN.out]; rfl), hb.trans ⟨rfl, rfl, rfl, Nat.le_refl _, fun _ _ => rfl⟩⟩
        | true =>
          have hn : (x != y) = false := by simp [bne, he]
          have HN := Lib.hid he
          clear he
          go_wp2_with fail
          go_quiet (fail)
          go_wp2
          go_roundw
          case rel => exact ⟨k + 1, by omega, by go_num, Lib.hid (by rw [HE.out, intsEq_step HX.out HY.out, HN.out]; rfl), hb.trans ⟨rfl, rfl, rfl, Nat.le_refl _, fun _ _ => rfl⟩⟩
          case measure => simp [intOf]; omega
      · go_wp2
        go_ret
        refine ⟨retb ?_, hb⟩
        obtain rfl : k = l.length := by omega
        rw [HE.out, List.drop_length, List.drop_of_length_le (by have := HL.out; omega)]
        rfl
  · have hne : ((l.length : Int) != (m.length : Int)) = true := by rw [bne_iff_ne]; omega
    go_enter Tryz.func28, Tryz.ntmps28
    go_wp2
    go_ret
    exact ⟨retb (intsEq_len l m hlen).symm, (by repeat (first | exact Below.refl _ _ | assumption | refine Below.alloc ?_ (by simp <;> omega) _ | refine Below.setCell ?_ (by simp <;> omega) _ | refine Below.drew ?_))⟩

/-! ### The orders are valid -/
set_option maxRecDepth 100000 in
set_option maxHeartbeats 2000000 in
theorem smF1_c (O : Option Addr) (oc : Nat) (o : List Int) (n : Int) (b : Nat) (w : World) (hO : RdI w w.heap.size O o) (hol : o.length ≤ 1000000000) (hb : w.cell? ⟨b, 0, none⟩ = some (.int .i64 n)) :
    Calls Tryz.prog 24 #[.slice O o.length oc, .pointer (some ⟨b, 0, none⟩)] w fun e w' => e = .returned (.bool (!ordOk o n)) ∧ Below w.heap.size w w' := by
  go_enter Tryz.func24, Tryz.ntmps24
  go_wp2_with fail
  refine (iOrderValid_c O oc o n w hO hol).mono ?_
  rintro e w1 ⟨rfl, hx⟩
  have hb := hx.below
  go_wp2
  go_ret
  exact ⟨rfl, hb⟩

theorem row_hit {g : List Int → Bool} {os : List (List Int)} {k : Nat} (hk : k < os.length) (h : g (os.getD k []) = true) : os.any g = true := List.any_eq_true.2 ⟨_, List.mem_of_getElem? (rowD hk), h⟩
theorem row_take {g : List Int → Bool} {os : List (List Int)} {k : Nat} (hk : k < os.length) (h : (os.take k).any g = false) : (os.take (k + 1)).any g = g (os.getD k []) := by
  have e : os.getD k [] = os[k] := by simp [List.getD_eq_getElem?_getD, hk]
  rw [List.take_succ_eq_append_getElem hk, List.any_append, h, e]
  simp

set_option maxRecDepth 100000 in
set_option maxHeartbeats 2000000 in
theorem smIndex1_c {As : Nat → Option Addr} {cs : Nat → Nat} (P : Option Addr) (pc : Nat) (os : List (List Int)) (n : Int) (b : Nat) (w : World) (hP : RdO w w.heap.size P As cs os) (hol : os.length ≤ 1000000000) (hos : ∀ i, i < os.length → (os.getD i []).length ≤ 1000000000) (hb : w.cell? ⟨b, 0, none⟩ = some (.int .i64 n)) (g : List Int → Bool) (hgd : g = fun o => !ordOk o n) :
    Calls Tryz.prog 51 #[.slice P os.length pc, .func (Fn.func 24) #[] #[.pointer (some ⟨b, 0, none⟩)]] w fun e w' => ∃ i : Int, e = .returned (.int .i64 i) ∧ decide (0 ≤ i) = os.any g ∧ Below w.heap.size w w' := by
  have HGD := Lib.hid (fun o => show g o = !ordOk o n by rw [hgd])
  have HOS := Lib.hid hos
  clear hgd hos
  go_enter Tryz.func51, Tryz.ntmps51
  go_wp2
  go_loopw [8] (fun kv wr => ∃ k : Nat, k ≤ os.length ∧ kv = .int .i64 k ∧ Hid ((os.take k).any g = false) ∧ Below w.heap.size w wr) (fun kv _ => os.length - (intOf kv).toNat)
  case atStart => exact ⟨0, Nat.zero_le _, rfl, Lib.hid (by simp), Below.refl _ _⟩
  case round =>
    obtain ⟨k, hk, rfl, HN, hbw⟩ := hrel
    by_cases hlt : k < os.length
    · have hPr := (hP.below hbw).more hbw.size
      obtain ⟨pb, po, rfl, hpB, p0⟩ := hPr.at_ hlt
      have hin := hPr.inn k hlt
      have hpl := HOS.out k hlt
      have hbr := cell_kept hbw hb
      have HH := Lib.hid (fun h => row_hit (g := g) hlt h)
      have HT := Lib.hid (row_take hlt HN.out)
      have hkI : (k : Int) < (os.length : Int) := by omega
      clear hPr
      generalize os.getD k [] = o at *
      go_wp2_with fail
      refine (smF1_c (As k) (cs k) o n b wr hin hpl hbr).mono ?_
      rintro e w1 ⟨rfl, b1⟩
      have hb2 := below_trans hbw (Nat.le_refl _) b1
      rw [← HGD.out o]
      cases hgx : g o with
      | true =>
        have HG := Lib.hid (HH.out hgx)
        clear hgx
        go_wp2
        go_ret
        exact ⟨k, rfl, by rw [HG.out]; simp, hb2⟩
      | false =>
        have HG := Lib.hid (HT.out.trans hgx)
        clear hgx
        go_wp2
        go_roundw
        case rel => exact ⟨k + 1, by omega, by go_num, HG, hb2⟩
        case measure => simp [intOf]; omega
    · obtain rfl : k = os.length := by omega
      have HN2 := Lib.hid (show os.any g = false by have := HN.out; rwa [List.take_length] at this)
      go_wp2
      go_ret
      exact ⟨-1, rfl, by rw [HN2.out]; simp, hbw⟩

set_option maxRecDepth 100000 in
set_option maxHeartbeats 2000000 in
theorem smContains1_c {As : Nat → Option Addr} {cs : Nat → Nat} (P : Option Addr) (pc : Nat) (os : List (List Int)) (n : Int) (b : Nat) (w : World) (hP : RdO w w.heap.size P As cs os) (hol : os.length ≤ 1000000000) (hos : ∀ i, i < os.length → (os.getD i []).length ≤ 1000000000) (hb : w.cell? ⟨b, 0, none⟩ = some (.int .i64 n)) :
    Calls Tryz.prog 23 #[.slice P os.length pc, .func (Fn.func 24) #[] #[.pointer (some ⟨b, 0, none⟩)]] w fun e w' => e = .returned (.bool (!os.all fun o => ordOk o n)) ∧ Below w.heap.size w w' := by
  have HV := Lib.hid (show (os.any fun o => !ordOk o n) = !os.all (fun o => ordOk o n) by simp [List.all_eq_not_any_not])
  have HI := Lib.hid (smIndex1_c P pc os n b w hP hol hos hb _ rfl)
  go_enter Tryz.func23, Tryz.ntmps23
  go_wp2_with fail
  refine (HI.out).mono ?_
  rintro e w1 ⟨i, rfl, hi, b1⟩
  rw [HV.out] at hi
  have HI2 := Lib.hid hi
  clear hi
  go_wp2
  go_ret
  exact ⟨retb (by first | exact HI2.out | (rw [← HI2.out]; simp)), b1⟩

/-! ### The memories are alike -/
def RoP (l : List Cd) (m : List Int) (A M : Option Addr) (ca cm N : Nat) (O : Option Addr) (oc : Nat) (o R : List Int) : Prop :=
  ∀ W : World, RdC W W.heap.size A l → RdI W W.heap.size M m → RdI W W.heap.size O o → Calls Tryz.prog 29 #[.slice A l.length ca, .int .i64 N, .slice M m.length cm, .slice O o.length oc] W (GmP W R)

set_option maxRecDepth 100000 in
set_option maxHeartbeats 4000000 in
theorem smF2_c (O A M X : Option Addr) (oc ca cm xc : Nat) (o V R m : List Int) (l : List Cd) (N b0 b1 b2 b3 : Nat) (w : World) (hA : RdC w w.heap.size A l) (hM : RdI w w.heap.size M m) (hO : RdI w w.heap.size O o) (hX : RdI w w.heap.size X V)
    (hol : o.length ≤ 1000000000) (hvl : V.length ≤ 1000000000) (hrl : R.length ≤ 1000000000) (hR : RoP l m A M ca cm N O oc o R)
    (q0 : w.cell? ⟨b0, 0, none⟩ = some (.slice A l.length ca)) (q1 : w.cell? ⟨b1, 0, none⟩ = some (.int .i64 N)) (q2 : w.cell? ⟨b2, 0, none⟩ = some (.slice M m.length cm)) (q3 : w.cell? ⟨b3, 0, none⟩ = some (.slice X V.length xc)) :
    Calls Tryz.prog 27 #[.slice O o.length oc, .pointer (some ⟨b0, 0, none⟩), .pointer (some ⟨b1, 0, none⟩), .pointer (some ⟨b2, 0, none⟩), .pointer (some ⟨b3, 0, none⟩)] w fun e w' => e = .returned (.bool (!intsEq R V)) ∧ Below w.heap.size w w' := by
  have HR := Lib.hid hR
  unfold RoP GmP at HR
  clear hR
  have hbd := (Below.refl w.heap.size w).drew
  have rA := hA.below hbd
  have rM := hM.below hbd
  have rO := hO.below hbd
  have rX := hX.below hbd
  have p0 : w.drew.cell? _ = _ := q0
  have p1 : w.drew.cell? _ = _ := q1
  have p2 : w.drew.cell? _ = _ := q2
  have p3 : w.drew.cell? _ = _ := q3
  go_enter Tryz.func27, Tryz.ntmps27
  go_wp2_with fail
  go_region_held3 (fun W => W.cell? ⟨b0, 0, none⟩ = some (.slice A l.length ca) ∧ W.cell? ⟨b1, 0, none⟩ = some (.int .i64 N) ∧ W.cell? ⟨b2, 0, none⟩ = some (.slice M m.length cm) ∧ W.cell? ⟨b3, 0, none⟩ = some (.slice X V.length xc))
    (first | exact ⟨p0, p1, p2, p3⟩ | exact ⟨cell_kept b6 (cell_kept b5 p0), cell_kept b6 (cell_kept b5 p1), cell_kept b6 (cell_kept b5 p2), cell_kept b6 (cell_kept b5 p3)⟩ | exact ⟨cell_kept b5 p0, cell_kept b5 p1, cell_kept b5 p2, cell_kept b5 p3⟩ | go_keep)
    (first | ((go_at_call 29; refine (HR.out w.drew rA rM rO).mono ?_; rintro e w5 ⟨Y, yc, rfl, oY, b5⟩; have vY := OwI.rd oY; have vX := (rX.below b5).more b5.size)) | ((go_at_call 28; refine (sliceEqual_c Y X yc xc R V w5 vY vX (by omega) (by omega)).mono ?_; rintro e w6 ⟨rfl, b6⟩)))
  rename_i hh
  clear hh
  have hbz := below_trans (below_trans hbd (Nat.le_refl _) b5) (Nat.le_refl _) b6
  clear b5 b6 p0 p1 p2 p3 q0 q1 q2 q3
  go_wp2
  go_ret
  exact ⟨rfl, hbz⟩

set_option maxRecDepth 100000 in
set_option maxHeartbeats 2000000 in
theorem smIndex2_c {As : Nat → Option Addr} {cs : Nat → Nat} (P A M X : Option Addr) (pc ca cm xc : Nat) (os : List (List Int)) (V m : List Int) (l : List Cd) (N b0 b1 b2 b3 : Nat) (F : List Int → List Int) (w : World) (hA : RdC w w.heap.size A l) (hM : RdI w w.heap.size M m) (hP : RdO w w.heap.size P As cs os) (hX : RdI w w.heap.size X V)
    (hol : os.length ≤ 1000000000) (hos : ∀ i, i < os.length → (os.getD i []).length ≤ 1000000000) (hvl : V.length ≤ 1000000000) (hrl : ∀ o, (F o).length ≤ 1000000000) (hR : ∀ i, i < os.length → RoP l m A M ca cm N (As i) (cs i) (os.getD i []) (F (os.getD i [])))
    (q0 : w.cell? ⟨b0, 0, none⟩ = some (.slice A l.length ca)) (q1 : w.cell? ⟨b1, 0, none⟩ = some (.int .i64 N)) (q2 : w.cell? ⟨b2, 0, none⟩ = some (.slice M m.length cm)) (q3 : w.cell? ⟨b3, 0, none⟩ = some (.slice X V.length xc)) (g : List Int → Bool) (hgd : g = fun o => !intsEq (F o) V) :
    Calls Tryz.prog 51 #[.slice P os.length pc, .func (Fn.func 27) #[] #[.pointer (some ⟨b0, 0, none⟩), .pointer (some ⟨b1, 0, none⟩), .pointer (some ⟨b2, 0, none⟩), .pointer (some ⟨b3, 0, none⟩)]] w fun e w' => ∃ i : Int, e = .returned (.int .i64 i) ∧ decide (0 ≤ i) = os.any g ∧ Below w.heap.size w w' := by
  have HGD := Lib.hid (fun o => show g o = !intsEq (F o) V by rw [hgd])
  have HOS := Lib.hid hos
  have HRR := Lib.hid hR
  have HRL := Lib.hid hrl
  clear hgd hos hR hrl
  go_enter Tryz.func51, Tryz.ntmps51
  go_wp2
  go_loopw [8] (fun kv wr => ∃ k : Nat, k ≤ os.length ∧ kv = .int .i64 k ∧ Hid ((os.take k).any g = false) ∧ Below w.heap.size w wr) (fun kv _ => os.length - (intOf kv).toNat)
  case atStart => exact ⟨0, Nat.zero_le _, rfl, Lib.hid (by simp), Below.refl _ _⟩
  case round =>
    obtain ⟨k, hk, rfl, HN, hbw⟩ := hrel
    by_cases hlt : k < os.length
    · have hPr := (hP.below hbw).more hbw.size
      obtain ⟨pb, po, rfl, hpB, p0⟩ := hPr.at_ hlt
      have hin := hPr.inn k hlt
      have hpl := HOS.out k hlt
      have HRK := Lib.hid (HRR.out k hlt)
      have HF := Lib.hid (fun a b c d e f g h => smF2_c (As k) A M X (cs k) ca cm xc (os.getD k []) V (F (os.getD k [])) m l N b0 b1 b2 b3 wr a b c d hpl hvl (HRL.out _) HRK.out e f g h)
      have hAr := (hA.below hbw).more hbw.size
      have hMr := (hM.below hbw).more hbw.size
      have hXr := (hX.below hbw).more hbw.size
      have HH := Lib.hid (fun h => row_hit (g := g) hlt h)
      have HT := Lib.hid (row_take hlt HN.out)
      have hkI : (k : Int) < (os.length : Int) := by omega
      have HQ := Lib.hid (And.intro (cell_kept hbw q0) (And.intro (cell_kept hbw q1) (And.intro (cell_kept hbw q2) (cell_kept hbw q3))))
      have HGO := Lib.hid (HGD.out (os.getD k []))
      clear hPr HRK
      generalize os.getD k [] = o at *
      go_wp2_with fail
      refine (HF.out hAr hMr hin hXr HQ.out.1 HQ.out.2.1 HQ.out.2.2.1 HQ.out.2.2.2).mono ?_
      rintro e w1 ⟨rfl, b1'⟩
      have hb2 := below_trans hbw (Nat.le_refl _) b1'
      rw [← HGO.out]
      cases hgx : g o with
      | true =>
        have HG := Lib.hid (HH.out hgx)
        clear hgx
        go_wp2
        go_ret
        exact ⟨k, rfl, by rw [HG.out]; simp, hb2⟩
      | false =>
        have HG := Lib.hid (HT.out.trans hgx)
        clear hgx
        go_wp2
        go_roundw
        case rel => exact ⟨k + 1, by omega, by go_num, HG, hb2⟩
        case measure => simp [intOf]; omega
    · obtain rfl : k = os.length := by omega
      have HN2 := Lib.hid (show os.any g = false by have := HN.out; rwa [List.take_length] at this)
      go_wp2
      go_ret
      exact ⟨-1, rfl, by rw [HN2.out]; simp, hbw⟩

set_option maxRecDepth 100000 in
set_option maxHeartbeats 2000000 in
theorem smContains2_c {As : Nat → Option Addr} {cs : Nat → Nat} (P A M X : Option Addr) (pc ca cm xc : Nat) (os : List (List Int)) (V m : List Int) (l : List Cd) (N b0 b1 b2 b3 : Nat) (F : List Int → List Int) (w : World) (hA : RdC w w.heap.size A l) (hM : RdI w w.heap.size M m) (hP : RdO w w.heap.size P As cs os) (hX : RdI w w.heap.size X V)
    (hol : os.length ≤ 1000000000) (hos : ∀ i, i < os.length → (os.getD i []).length ≤ 1000000000) (hvl : V.length ≤ 1000000000) (hrl : ∀ o, (F o).length ≤ 1000000000) (hR : ∀ i, i < os.length → RoP l m A M ca cm N (As i) (cs i) (os.getD i []) (F (os.getD i [])))
    (q0 : w.cell? ⟨b0, 0, none⟩ = some (.slice A l.length ca)) (q1 : w.cell? ⟨b1, 0, none⟩ = some (.int .i64 N)) (q2 : w.cell? ⟨b2, 0, none⟩ = some (.slice M m.length cm)) (q3 : w.cell? ⟨b3, 0, none⟩ = some (.slice X V.length xc)) :
    Calls Tryz.prog 23 #[.slice P os.length pc, .func (Fn.func 27) #[] #[.pointer (some ⟨b0, 0, none⟩), .pointer (some ⟨b1, 0, none⟩), .pointer (some ⟨b2, 0, none⟩), .pointer (some ⟨b3, 0, none⟩)]] w fun e w' => e = .returned (.bool (!os.all fun o => intsEq (F o) V)) ∧ Below w.heap.size w w' := by
  have HV := Lib.hid (show (os.any fun o => !intsEq (F o) V) = !os.all (fun o => intsEq (F o) V) by simp [List.all_eq_not_any_not])
  have HI := Lib.hid (smIndex2_c P A M X pc ca cm xc os V m l N b0 b1 b2 b3 F w hA hM hP hX hol hos hvl hrl hR q0 q1 q2 q3 _ rfl)
  go_enter Tryz.func23, Tryz.ntmps23
  go_wp2_with fail
  refine (HI.out).mono ?_
  rintro e w1 ⟨i, rfl, hi, b1'⟩
  rw [HV.out] at hi
  have HI2 := Lib.hid hi
  clear hi
  go_wp2
  go_ret
  exact ⟨retb (by first | exact HI2.out | (rw [← HI2.out]; simp)), b1'⟩

theorem order_run {l : List Cd} {N : Nat} {m o : List Int} {A M O : Option Addr} {ca cm oc : Nat} (hlo : lockOk l N m = true) (ho : ordOk o N = true) : RoP l m A M ca cm N O oc o (orderM l N m o) := by
  have hok : orderOk l N m o = true := by simp [orderOk, hlo, ho]
  obtain ⟨N', he, N1, N8, x1, x40, hxs, hsch, hp, hw, hm1, hm32⟩ := order_in hok
  have e : N' = N := by have := he; omega
  subst e
  have hV : orderM l N' m o = (runE l (orSch o) (Cw.start N' m)).mem := by simp [orderM, hok]
  rw [hV]
  exact fun W a b d => runOrder_c A M O ca cm oc l N' m o W a b d N1 N8 x1 x40 hxs hsch hp hw hm1 hm32

set_option maxRecDepth 100000 in
set_option maxHeartbeats 8000000 in
theorem iSameMemory_c {As : Nat → Option Addr} {cs : Nat → Nat} (A M P : Option Addr) (ca cm pc : Nat) (l : List Cd) (n : Int) (m : List Int) (os : List (List Int)) (w : World) (hA : RdC w w.heap.size A l) (hM : RdI w w.heap.size M m) (hP : RdO w w.heap.size P As cs os) (hl : l.length ≤ 1000000000) (hml : m.length ≤ 1000000000) (hol : os.length ≤ 1000000000) (hos : ∀ i, i < os.length → (os.getD i []).length ≤ 1000000000) :
    Calls Tryz.prog 6 #[.slice A l.length ca, .int .i64 n, .slice M m.length cm, .slice P os.length pc] w fun e w' => e = .returned (.bool (sameB l n m os)) ∧ Below w.heap.size w w' := by
  have hmf : ∀ (fn : Fn) (first cap : Array Value) (w : World), (Instr.makeFunc fn first cap).run Tryz.prog w = .ok (.func fn first cap) w := fun _ _ _ _ => rfl
  have HOS := Lib.hid hos
  have hn0 := heap_alloc_new w (.cells #[.slice A l.length ca] 23)
  have hn1 := heap_alloc_new (w.alloc (.cells #[.slice A l.length ca] 23)) (.cells #[.int .i64 n] 3)
  have hn2 := heap_alloc_new ((w.alloc (.cells #[.slice A l.length ca] 23)).alloc (.cells #[.int .i64 n] 3)) (.cells #[.slice M m.length cm] 24)
  have hx1 := Ext.alloc (w.alloc (.cells #[.slice A l.length ca] 23)) (.cells #[.int .i64 n] 3)
  have hx2 := Ext.alloc ((w.alloc (.cells #[.slice A l.length ca] 23)).alloc (.cells #[.int .i64 n] 3)) (.cells #[.slice M m.length cm] 24)
  have hb3 : Below w.heap.size w (((w.alloc (.cells #[.slice A l.length ca] 23)).alloc (.cells #[.int .i64 n] 3)).alloc (.cells #[.slice M m.length cm] 24)) := ((Below.refl _ _).alloc (Nat.le_refl _) _ |>.alloc (by simp) _).alloc (by simp; omega) _
  have q0 : (((w.alloc (.cells #[.slice A l.length ca] 23)).alloc (.cells #[.int .i64 n] 3)).alloc (.cells #[.slice M m.length cm] 24)).cell? ⟨w.heap.size, 0, none⟩ = some (.slice A l.length ca) := hx2.cell (hx1.cell ((cell_of_heap hn0 0).trans rfl))
  have q1 : (((w.alloc (.cells #[.slice A l.length ca] 23)).alloc (.cells #[.int .i64 n] 3)).alloc (.cells #[.slice M m.length cm] 24)).cell? ⟨w.heap.size + 1, 0, none⟩ = some (.int .i64 n) := by
    have h := hx2.cell ((cell_of_heap hn1 0).trans rfl)
    simpa using h
  have q2 : (((w.alloc (.cells #[.slice A l.length ca] 23)).alloc (.cells #[.int .i64 n] 3)).alloc (.cells #[.slice M m.length cm] 24)).cell? ⟨w.heap.size + 2, 0, none⟩ = some (.slice M m.length cm) := by
    have h := (cell_of_heap hn2 0).trans rfl
    simpa using h
  have hA3 := (hA.below hb3).more hb3.size
  have hM3 := (hM.below hb3).more hb3.size
  have hP3 := (hP.below hb3).more hb3.size
  clear hn0 hn1 hn2 hx1 hx2 hA hM hP hos
  cases hlo : lockOk l n m with
  | false =>
    have HV := Lib.hid (show sameB l n m os = false by simp [sameB, hlo])
    have HCR := Lib.hid (fun (W : World) (a : RdC W W.heap.size A l) (b : RdI W W.heap.size M m) => canRun_c A M ca cm l n m W a b hl hml)
    rw [hlo] at HCR
    go_enter Tryz.func6, Tryz.ntmps6
    go_wp2_with fail
    generalize ((w.alloc (.cells #[.slice A l.length ca] 23)).alloc (.cells #[.int .i64 n] 3)).alloc (.cells #[.slice M m.length cm] 24) = w3 at *
    refine (HCR.out w3 hA3 hM3).mono ?_
    rintro e w4 ⟨rfl, b4⟩
    have hb4 := below_trans hb3 (Nat.le_refl _) b4
    clear q0 q1 q2 hA3 hM3 hP3 b4 hb3
    go_wp2
    go_ret
    exact ⟨retb HV.out.symm, hb4⟩
  | true =>
    by_cases h6 : os.length ≤ 6
    · have h6I : ¬ (6 : Int) < (os.length : Int) := by omega
      obtain ⟨N, rfl, N1, N8, hp, hw, hm1, hm32⟩ := lock_parts hlo
      have HCR := Lib.hid (fun (W : World) (a : RdC W W.heap.size A l) (b : RdI W W.heap.size M m) => canRun_c A M ca cm l N m W a b hl hml)
      rw [hlo] at HCR
      have HC1 := Lib.hid (fun (W : World) (a : RdO W W.heap.size P As cs os) (b : W.cell? ⟨w.heap.size + 1, 0, none⟩ = some (.int .i64 N)) => smContains1_c P pc os N (w.heap.size + 1) W a hol HOS.out b)
      cases ha : os.all (fun o => ordOk o N) with
      | false =>
        have HV := Lib.hid (show sameB l N m os = false by simp [sameB, ha])
        rw [ha] at HC1
        clear hp hw ha
        go_enter Tryz.func6, Tryz.ntmps6
        go_wp2_with fail
        generalize ((w.alloc (.cells #[.slice A l.length ca] 23)).alloc (.cells #[.int .i64 N] 3)).alloc (.cells #[.slice M m.length cm] 24) = w3 at *
        refine (HCR.out w3 hA3 hM3).mono ?_
        rintro e w4 ⟨rfl, b4⟩
        have hb4 := below_trans hb3 (Nat.le_refl _) b4
        replace hP3 := (hP3.below b4).more b4.size
        replace q1 := cell_kept b4 q1
        clear q0 q2 hA3 hM3 b4 hb3
        go_wp2_with fail
        refine (HC1.out w4 hP3 q1).mono ?_
        rintro e w5 ⟨rfl, b5⟩
        have hb5 := below_trans hb4 (Nat.le_refl _) b5
        clear b5 hb4 q1 hP3
        go_wp2
        go_ret
        exact ⟨retb HV.out.symm, hb5⟩
      | true =>
        have HV := Lib.hid ((same_spec hlo h6).symm)
        have hVM : leastM l N m = (runE l (allSch N) (Cw.start N m)).mem := by simp [leastM, hlo]
        have HRL := Lib.hid (fun (W : World) (a : RdC W W.heap.size A l) (b : RdI W W.heap.size M m) => runLeast_c A M ca cm l N m W a b N1 N8 hp hw hm1 hm32)
        rw [← hVM] at HRL
        unfold IlP at HRL
        rw [ha] at HC1
        have HOR := Lib.hid (fun i (hi : i < os.length) => order_run (A := A) (M := M) (ca := ca) (cm := cm) (O := As i) (oc := cs i) hlo (List.all_eq_true.1 ha _ (List.mem_of_getElem? (rowD hi))))
        have HFL := Lib.hid (fun o => show (orderM l N m o).length ≤ 1000000000 from Nat.le_trans (orderM_len l N m o) hml)
        have hvl : (leastM l N m).length ≤ 1000000000 := Nat.le_trans (leastM_len l N m) hml
        clear hp hw ha hVM
        generalize leastM l N m = V at *
        generalize orderM l N m = F at *
        go_enter Tryz.func6, Tryz.ntmps6
        go_wp2_with fail
        generalize ((w.alloc (.cells #[.slice A l.length ca] 23)).alloc (.cells #[.int .i64 N] 3)).alloc (.cells #[.slice M m.length cm] 24) = w3 at *
        refine (HCR.out w3 hA3 hM3).mono ?_
        rintro e w4 ⟨rfl, b4⟩
        have hb4 := below_trans hb3 (Nat.le_refl _) b4
        replace hP3 := (hP3.below b4).more b4.size
        replace hA3 := (hA3.below b4).more b4.size
        replace hM3 := (hM3.below b4).more b4.size
        replace q0 := cell_kept b4 q0
        replace q1 := cell_kept b4 q1
        replace q2 := cell_kept b4 q2
        clear b4 hb3 HCR
        go_wp2_with fail
        refine (HC1.out w4 hP3 q1).mono ?_
        rintro e w5 ⟨rfl, b5⟩
        have hb5 := below_trans hb4 (Nat.le_refl _) b5
        replace hP3 := (hP3.below b5).more b5.size
        replace hA3 := (hA3.below b5).more b5.size
        replace hM3 := (hM3.below b5).more b5.size
        replace q0 := cell_kept b5 q0
        replace q1 := cell_kept b5 q1
        replace q2 := cell_kept b5 q2
        clear b5 hb4 HC1
        go_wp2_with fail
        refine (HRL.out w5 hA3 hM3).mono ?_
        rintro e w6 ⟨X, xc, T, rfl, oX, b6⟩
        have hb6 := below_trans hb5 (Nat.le_refl _) b6
        replace hP3 := (hP3.below b6).more b6.size
        replace hA3 := (hA3.below b6).more b6.size
        replace hM3 := (hM3.below b6).more b6.size
        replace q0 := cell_kept b6 q0
        replace q1 := cell_kept b6 q1
        replace q2 := cell_kept b6 q2
        have vX := OwI.rd oX
        have hn7 := heap_alloc_new w6 (.cells #[.slice X V.length xc] 24)
        have hx7 := Ext.alloc w6 (.cells #[.slice X V.length xc] 24)
        have q3 : (w6.alloc (.cells #[.slice X V.length xc] 24)).cell? ⟨w6.heap.size, 0, none⟩ = some (.slice X V.length xc) := (cell_of_heap hn7 0).trans rfl
        have b7 := hx7.below
        have hb7 := below_trans hb6 (Nat.le_refl _) b7
        replace hP3 := (hP3.below b7).more b7.size
        replace hA3 := (hA3.below b7).more b7.size
        replace hM3 := (hM3.below b7).more b7.size
        replace vX := (vX.below b7).more b7.size
        replace q0 := hx7.cell q0
        replace q1 := hx7.cell q1
        replace q2 := hx7.cell q2
        clear b6 hb5 oX HRL b7 hx7 hn7 hb6
        go_wp2_with fail
        generalize w6.alloc (.cells #[.slice X V.length xc] 24) = w7 at *
        refine (smContains2_c P A M X pc ca cm xc os V m l N w.heap.size (w.heap.size + 1) (w.heap.size + 2) w6.heap.size F w7 hA3 hM3 hP3 vX hol HOS.out hvl HFL.out HOR.out q0 q1 q2 q3).mono ?_
        rintro e w8 ⟨rfl, b8⟩
        have hb8 := below_trans hb7 (Nat.le_refl _) b8
        clear b8 hb7 q0 q1 q2 q3 hP3 hA3 hM3 vX
        rw [HV.out]
        go_wp2
        go_ret
        exact ⟨retb (by simp), hb8⟩
    · have h6I : (6 : Int) < (os.length : Int) := by omega
      have HV := Lib.hid (show sameB l n m os = false by simp [sameB, h6])
      have HCR := Lib.hid (fun (W : World) (a : RdC W W.heap.size A l) (b : RdI W W.heap.size M m) => canRun_c A M ca cm l n m W a b hl hml)
      rw [hlo] at HCR
      go_enter Tryz.func6, Tryz.ntmps6
      go_wp2_with fail
      generalize ((w.alloc (.cells #[.slice A l.length ca] 23)).alloc (.cells #[.int .i64 n] 3)).alloc (.cells #[.slice M m.length cm] 24) = w3 at *
      refine (HCR.out w3 hA3 hM3).mono ?_
      rintro e w4 ⟨rfl, b4⟩
      have hb4 := below_trans hb3 (Nat.le_refl _) b4
      clear q0 q1 q2 hA3 hM3 hP3 b4 hb3
      go_wp2
      go_ret
      exact ⟨retb HV.out.symm, hb4⟩


/-- The slice at A reads as accesses. -/
def RdQ (w : World) (B : Nat) (A : Option Addr) (l : List Acc) : Prop := Reads w B 4 A l.length (accsV l)
/-- The slice at A reads as beats. -/
def RdT (w : World) (B : Nat) (A : Option Addr) (l : List (Nat × Nat)) : Prop := Reads w B 2 A l.length (beatsV l)
theorem accsV_get (l : List Acc) : ∀ (k : Nat) (q : Acc), l[k]? = some q → ∀ j, j < 4 → (accsV l)[k * 4 + j]? = ([.int .i64 q.who, .int .i64 q.cell, .bool q.wr, .int .i64 q.ph] : List Value)[j]? := by
  induction l with
  | nil => intro k q h; simp at h
  | cons y l ih =>
    intro k q h j hj
    cases k with
    | zero =>
      simp at h
      subst h
      simp only [accsV, List.flatMap_cons, Nat.zero_mul, Nat.zero_add]
      rw [List.getElem?_append_left (by simpa using hj)]
    | succ k =>
      simp only [List.getElem?_cons_succ] at h
      have := ih k q h j hj
      simp only [accsV, List.flatMap_cons] at this ⊢
      rw [List.getElem?_append_right (by simp; omega), ← this]
      congr 1
      simp; omega
theorem beatsV_at (l : List (Nat × Nat)) : ∀ (k : Nat) (q : Nat × Nat), l[k]? = some q → ∀ j, j < 2 → (beatsV l)[k * 2 + j]? = ([.int .i64 q.1, .int .i64 q.2] : List Value)[j]? := by
  induction l with
  | nil => intro k q h; simp at h
  | cons y l ih =>
    intro k q h j hj
    cases k with
    | zero =>
      simp at h
      subst h
      simp only [beatsV, List.flatMap_cons, Nat.zero_mul, Nat.zero_add]
      rw [List.getElem?_append_left (by simpa using hj)]
    | succ k =>
      simp only [List.getElem?_cons_succ] at h
      have := ih k q h j hj
      simp only [beatsV, List.flatMap_cons] at this ⊢
      rw [List.getElem?_append_right (by simp; omega), ← this]
      congr 1
      simp; omega
section
variable {w w' : World} {B B' : Nat} {A : Option Addr} {l : List Acc} {t : List (Nat × Nat)}
theorem RdQ.below (h : RdQ w B A l) (hb : Below B w w') : RdQ w' B A l := Reads.below h hb
theorem RdQ.more (h : RdQ w B A l) (hB : B ≤ B') : RdQ w B' A l := Reads.more h hB
theorem RdT.below (h : RdT w B A t) (hb : Below B w w') : RdT w' B A t := Reads.below h hb
theorem RdT.more (h : RdT w B A t) (hB : B ≤ B') : RdT w B' A t := Reads.more h hB
theorem RdQ.at_ (h : RdQ w B A l) {k : Nat} (hk : k < l.length) :
    ∃ b off q, A = some ⟨b, off, none⟩ ∧ b < B ∧ l[k]? = some q ∧
      w.cell? ⟨b, off + k * 4, none⟩ = some (.int .i64 q.who) ∧ w.cell? ⟨b, off + k * 4 + 1, none⟩ = some (.int .i64 q.cell) ∧
      w.cell? ⟨b, off + k * 4 + 2, none⟩ = some (.bool q.wr) ∧ w.cell? ⟨b, off + k * 4 + 3, none⟩ = some (.int .i64 q.ph) := by
  obtain ⟨b, off, e, hb, hc⟩ := h.2 (by omega)
  have hx : l[k]? = some l[k] := List.getElem?_eq_getElem hk
  have g := accsV_get l k _ hx
  exact ⟨b, off, l[k], e, hb, hx, hc (k * 4) _ (g 0 (by omega)), hc (k * 4 + 1) _ (g 1 (by omega)), hc (k * 4 + 2) _ (g 2 (by omega)), hc (k * 4 + 3) _ (g 3 (by omega))⟩
theorem RdT.at_ (h : RdT w B A t) {k : Nat} (hk : k < t.length) :
    ∃ b off q, A = some ⟨b, off, none⟩ ∧ b < B ∧ t[k]? = some q ∧ w.cell? ⟨b, off + k * 2, none⟩ = some (.int .i64 q.1) ∧ w.cell? ⟨b, off + k * 2 + 1, none⟩ = some (.int .i64 q.2) := by
  obtain ⟨b, off, e, hb, hc⟩ := h.2 (by omega)
  have hx : t[k]? = some t[k] := List.getElem?_eq_getElem hk
  have g := beatsV_at t k _ hx
  exact ⟨b, off, t[k], e, hb, hx, hc (k * 2) _ (g 0 (by omega)), hc (k * 2 + 1) _ (g 1 (by omega))⟩
end
noncomputable def accsOf (l : List Cd) (n : Int) (m : List Int) : List Acc := if lockOk l n m then (lockS l n.toNat m).accs else []

def clashI (aw ac bw bc ap bp : Int) (ar br : Bool) : Bool := (ap == bp) && (aw != bw) && (ac == bc) && (ar || br)
def clashA (a b : Acc) : Bool := clashI a.who a.cell b.who b.cell a.ph b.ph a.wr b.wr
def clashAt (l : List Acc) (i k : Nat) : Prop := ∃ a b, l[i]? = some a ∧ l[k]? = some b ∧ clashA a b = true
noncomputable def raceB (l : List Acc) : Bool := @decide (∃ k i, i < k ∧ clashAt l i k) (Classical.propDecidable _)
theorem race_yes {l : List Acc} {i k : Nat} {a b : Acc} (h : i < k) (ha : l[i]? = some a) (hb : l[k]? = some b) (hc : clashA a b = true) : raceB l = true := by
  unfold raceB
  exact @decide_eq_true _ (Classical.propDecidable _) ⟨k, i, h, a, b, ha, hb, hc⟩
theorem race_no {l : List Acc} (h : ∀ k i, k < l.length → i < k → ¬ clashAt l i k) : raceB l = false := by
  unfold raceB
  refine @decide_eq_false _ (Classical.propDecidable _) ?_
  rintro ⟨k, i, hik, hc⟩
  obtain ⟨a, b, ha, hb, hh⟩ := hc
  exact h k i (List.getElem?_eq_some_iff.1 hb).1 hik ⟨a, b, ha, hb, hh⟩

set_option maxRecDepth 100000 in
set_option maxHeartbeats 4000000 in
theorem clash_c (aw ac bw bc ap bp : Int) (ar br : Bool) (w : World) :
    Calls Tryz.prog 106 #[.agg #[.int .i64 aw, .int .i64 ac, .bool ar, .int .i64 ap], .agg #[.int .i64 bw, .int .i64 bc, .bool br, .int .i64 bp]] w fun e w' => e = .returned (.bool (clashI aw ac bw bc ap bp ar br)) ∧ Below w.heap.size w w' := by
  have HC := Lib.hid (show clashI aw ac bw bc ap bp ar br = ((ap == bp) && (aw != bw) && (ac == bc) && (ar || br)) from rfl)
  obtain ⟨x1, h1⟩ : ∃ x, (ap == bp) = x := ⟨_, rfl⟩
  obtain ⟨x2, h2⟩ : ∃ x, (aw != bw) = x := ⟨_, rfl⟩
  obtain ⟨x3, h3⟩ : ∃ x, (ac == bc) = x := ⟨_, rfl⟩
  rw [h1, h2, h3] at HC
  have hbw : Below w.heap.size w ((w.alloc (.cells #[.int .i64 aw, .int .i64 ac, .bool ar, .int .i64 ap] 130)).alloc (.cells #[.int .i64 bw, .int .i64 bc, .bool br, .int .i64 bp] 130)) := (by repeat (first | exact Below.refl _ _ | assumption | refine Below.alloc ?_ (by simp <;> omega) _ | refine Below.setCell ?_ (by simp <;> omega) _ | refine Below.drew ?_))
  cases x1 <;> cases x2 <;> cases x3 <;> cases ar <;> (
    go_enter Tryz.func106, Tryz.ntmps106
    go_wp2
    go_ret
    exact ⟨by rw [HC.out]; rfl, hbw⟩)

theorem RdQ.sub {w : World} {B : Nat} {A : Option Addr} {l : List Acc} (h : RdQ w B A l) {k : Nat} {x : Acc} (hx : l[k]? = some x) {b off : Nat} (e : A = some ⟨b, off, none⟩) : b < B ∧
    w.cell? ⟨b, off + k * 4, none⟩ = some (.int .i64 x.who) ∧ w.cell? ⟨b, off + k * 4 + 1, none⟩ = some (.int .i64 x.cell) ∧
      w.cell? ⟨b, off + k * 4 + 2, none⟩ = some (.bool x.wr) ∧ w.cell? ⟨b, off + k * 4 + 3, none⟩ = some (.int .i64 x.ph) := by
  obtain ⟨b', off', q, e', hb, hq, c0, c1, c2, c3⟩ := h.at_ (List.getElem?_eq_some_iff.1 hx).1
  rw [hx] at hq
  injection hq with hq
  subst hq
  rw [e] at e'
  injection e' with e'
  injection e' with e1 e2
  subst e1 e2
  exact ⟨hb, c0, c1, c2, c3⟩

set_option maxRecDepth 100000 in
set_option maxHeartbeats 4000000 in
theorem firstRace_c (A : Option Addr) (c : Nat) (l : List Acc) (w : World) (hA : RdQ w w.heap.size A l) (hc : l.length ≤ c) (hl : l.length ≤ 1000000000) :
    Calls Tryz.prog 71 #[.slice A l.length c] w fun e w' => ∃ i k : Int, e = .returned (.tuple #[.int .i64 i, .int .i64 k, .bool (raceB l)]) ∧ Below w.heap.size w w' := by
  go_enter Tryz.func71, Tryz.ntmps71
  go_wp2
  go_loopw [11] (fun kv wr => ∃ k : Nat, k ≤ l.length ∧ kv = .int .i64 k ∧ Below w.heap.size w wr ∧ Hid (∀ j i, j < k → i < j → ¬ clashAt l i j)) (fun kv _ => l.length - (intOf kv).toNat)
  case atStart => exact ⟨0, Nat.zero_le _, rfl, Below.refl _ _, Lib.hid (fun j i h => by omega)⟩
  case round =>
    obtain ⟨k, hk, rfl, hb, hno⟩ := hrel
    by_cases hlt : k < l.length
    · obtain ⟨b, off, x, rfl, hbB, hx, c0, c1, c2, c3⟩ := (hA.below hb).at_ hlt
      have hbs := hb.size
      have hkI : (k : Int) < (l.length : Int) := by omega
      have hkc : (k : Int) ≤ (c : Int) := by omega
      have HX := Lib.hid hx
      have hbb : b < wr.heap.size := by omega
      clear hx
      go_wp2
      obtain ⟨wo, how⟩ : ∃ z, z = wr.alloc (.cells #[.int .i64 x.who, .int .i64 x.cell, .bool x.wr, .int .i64 x.ph] 130) := ⟨_, rfl⟩
      have hwob : Below w.heap.size w wo := by rw [how]; exact hb.alloc hbs _
      have hn := heap_alloc_new wr (.cells #[.int .i64 x.who, .int .i64 x.cell, .bool x.wr, .int .i64 x.ph] 130)
      rw [← how] at hn
      have hws : wr.heap.size < wo.heap.size := lt_of_block hn
      rw [← how]
      generalize wr.heap.size = xb at *
      clear c0 c1 c2 c3 how
      clear hb
      obtain ⟨w0, hw0⟩ : ∃ z, z = wo := ⟨wo, rfl⟩
      subst hw0
      go_loopw [20] (fun iv wi => ∃ i : Nat, i ≤ k ∧ iv = .int .i64 i ∧ Below w0.heap.size w0 wi ∧ Hid (∀ j, j < i → ¬ clashAt l j k)) (fun iv _ => k - (intOf iv).toNat)
      case atStart => exact ⟨0, Nat.zero_le _, rfl, Below.refl _ _, Lib.hid (fun j h => by omega)⟩
      case round =>
        obtain ⟨i, hi, rfl, hbi, hni⟩ := hrel
        have hbi2 := below_trans hwob (Nat.le_refl _) hbi
        have d0 : wr.cell? ⟨xb, 0, none⟩ = some (.int .i64 x.who) := cell_kept hbi (cell_of_heap hn 0)
        have d1 : wr.cell? ⟨xb, 1, none⟩ = some (.int .i64 x.cell) := cell_kept hbi (cell_of_heap hn 1)
        have d2 : wr.cell? ⟨xb, 2, none⟩ = some (.bool x.wr) := cell_kept hbi (cell_of_heap hn 2)
        have d3 : wr.cell? ⟨xb, 3, none⟩ = some (.int .i64 x.ph) := cell_kept hbi (cell_of_heap hn 3)
        by_cases hik : i < k
        · have hil : i < l.length := by omega
          have hy : l[i]? = some (l[i]) := List.getElem?_eq_getElem hil
          generalize l[i] = y at hy
          obtain ⟨-, e0, e1, e2, e3⟩ := (hA.below hbi2).sub hy rfl
          have hikI : (i : Int) < (k : Int) := by omega
          have HY := Lib.hid hy
          have HCL := Lib.hid (show clashI y.who y.cell x.who x.cell y.ph x.ph y.wr x.wr = clashA y x from rfl)
          have hbis := hbi2.size
          have hxw : xb < wr.heap.size := by have := hbi.size; omega
          clear hy
          go_wp2_with fail
          refine (clash_c y.who y.cell x.who x.cell y.ph x.ph y.wr x.wr _).mono ?_
          rintro e w5 ⟨rfl, hb5⟩
          rw [HCL.out]
          have hb6 := below_trans (Below.alloc (Below.refl wr.heap.size wr) (Nat.le_refl _) (.cells #[.int .i64 y.who, .int .i64 y.cell, .bool y.wr, .int .i64 y.ph] 130)) (by simp) hb5
          have hb7 := below_trans hbi (Nat.le_refl _) hb6
          cases hcl : clashA y x with
          | true =>
            have HR := Lib.hid (race_yes hik HY.out HX.out hcl)
            clear hcl
            go_wp2
            go_ret3
            rw [HR.out]
            exact ⟨_, _, rfl, below_trans hwob (Nat.le_refl _) hb7⟩
          | false =>
            have HN := Lib.hid (show ∀ j, j < i + 1 → ¬ clashAt l j k from fun j hj => by
              by_cases e : j = i
              · subst e
                rintro ⟨a, b, ha, hb, hh⟩
                rw [HY.out] at ha
                rw [HX.out] at hb
                injection ha with ha
                injection hb with hb
                subst ha hb
                rw [hcl] at hh
                cases hh
              · exact hni.out j (by omega))
            clear hcl
            go_wp2
            go_roundw
            case rel => exact ⟨i + 1, by omega, by go_num, hb7, HN⟩
            case measure => simp [intOf]; omega
        · obtain rfl : i = k := by omega
          go_wp2
          go_roundw
          case rel => exact ⟨i + 1, by omega, by go_num, hbi2, Lib.hid (fun j i' hj hi' => by
            by_cases e : j = i
            · subst e; exact hni.out i' hi'
            · exact hno.out j i' (by omega) hi')⟩
          case measure => simp [intOf]; omega
    · obtain rfl : k = l.length := by omega
      have HR := Lib.hid (race_no (fun k i h1 h2 => hno.out k i h1 h2))
      go_wp2
      go_ret3
      rw [HR.out]
      exact ⟨_, _, rfl, hb⟩

theorem OR.cap4 {w : World} {base e size n c : Nat} {A : Option Addr} {xs : List Value} (h : OR w base e size A n c xs) : n ≤ c := by
  rcases h.2 with ⟨hv, h0⟩ | ⟨g, cap, cur, hv, -, -, h4, -⟩
  · omega
  · injection hv with _ _ h3
    omega

noncomputable def reasonOf (l : List Cd) (n : Int) (m : List Int) : Int := if lockOk l n m then (if splitB l n.toNat (lockS l n.toNat m).beats then 2 else if raceB (accsOf l n m) then 3 else 0) else 1

theorem lockAccs_len {l : List Cd} {n : Int} {m : List Int} (h : lockOk l n m = true) : (lockS l n.toNat m).accs.length ≤ 20480 := by
  have h1 := (run_bd (treeOf l) 0 (2 ^ n.toNat - 1) (LS.start n.toNat m) (Bd.start _ _)).1
  simp only [lockOk, Bool.and_eq_true] at h
  have h2 := trace_len h.1 n.toNat m
  have e : lockS l n.toNat m = (treeOf l).run 0 (2 ^ n.toNat - 1) (LS.start n.toNat m) := rfl
  rw [← e] at h1
  omega

set_option maxRecDepth 100000 in
set_option maxHeartbeats 4000000 in
theorem reason_c (A Am : Option Addr) (ca cm : Nat) (l : List Cd) (n : Int) (m : List Int) (w : World) (hA : RdC w w.heap.size A l) (hM : RdI w w.heap.size Am m) (hl : l.length ≤ 1000000000) (hml : m.length ≤ 1000000000) :
    Calls Tryz.prog 38 #[.slice A l.length ca, .int .i64 n, .slice Am m.length cm] w fun e w' => e = .returned (.int .i64 (reasonOf l n m)) ∧ Below w.heap.size w w' := by
  go_enter Tryz.func38, Tryz.ntmps38
  go_wp2_with fail
  refine (runLock_c A Am ca cm l n m w hA hM hl hml).mono ?_
  rintro e w1 (⟨hok, hr⟩ | ⟨hok, rfl, hb1⟩)
  · obtain ⟨z, T, tc, U, uc, rfl, hzB, hzl, hzn, hS, hb1⟩ := hr
    have hn := hok
    simp only [lockOk, Bool.and_eq_true] at hn
    have hn1 := inR_iff.1 hn.2.1
    have HR := Lib.hid (show reasonOf l n m = (if splitB l n.toNat (lockS l n.toNat m).beats then 2 else if raceB (lockS l n.toNat m).accs then 3 else 0) by simp [reasonOf, accsOf, hok])
    have hlen := trace_len hn.1 n.toNat m
    have hal := lockAccs_len hok
    have hin : ∀ q ∈ (lockS l n.toNat m).beats, q.1 < z.l.length ∧ q.2 < 256 := fun q hq => by rw [hzl]; exact lock_in hok q hq
    have hsp := Lib.hid (split_c hS hin hlen (by rw [hzl]; exact hl) (by omega) (by rw [hzB]; exact hb1.size))
    have HZ := Lib.hid (show splitB z.l z.n (lockS l n.toNat m).beats = splitB l n.toNat (lockS l n.toNat m).beats by rw [hzl, hzn])
    have hs1 : w.heap.size ≤ w1.heap.size := hb1.size
    have HS := Lib.hid hS
    clear hS hok hn hzn hlen hin hzl
    go_wp2_with fail
    refine hsp.out.mono ?_
    rintro e w2 ⟨p, mm, rfl, hb2⟩
    have hbw := below_trans hb1 (Nat.le_refl _) hb2
    have hS2 := HS.out.ext (Ext.of_below hb2) (by rw [hzB]; exact hs1)
    obtain ⟨-, -, -, -, c4, -, -⟩ := hS2.cells
    rw [HZ.out]
    have hX := Ext.alloc w2 (.cells #[.int .i64 p, .int .i64 mm] 78)
    have c4' := hX.cell c4
    have hQ : RdQ w2 w2.heap.size U (lockS l n.toNat m).accs := OR.reads hS2.acc
    have hcap := OR.cap4 hS2.acc
    have HQ := Lib.hid ((hQ.below hX.below).more hX.size)
    have hbX : Below w.heap.size w (w2.alloc (.cells #[.int .i64 p, .int .i64 mm] 78)) := hbw.alloc hbw.size _
    clear hS2 c4 hQ HS hsp HZ
    generalize (lockS l n.toNat m).accs = qs at *
    generalize splitB l n.toNat (lockS l n.toNat m).beats = sb at *
    cases sb with
    | true =>
      go_wp2
      go_ret
      exact ⟨by rw [HR.out]; rfl, hbX⟩
    | false =>
      go_wp2_with fail
      refine (firstRace_c U uc qs _ HQ.out hcap (by omega)).mono ?_
      rintro e w3 ⟨i, k, rfl, hb3⟩
      have hb4 := below_trans hbX (by simp) hb3
      generalize raceB qs = rb at *
      cases rb with
      | true =>
        go_wp2
        go_ret
        exact ⟨by rw [HR.out]; rfl, hb4⟩
      | false =>
        go_wp2
        go_ret
        exact ⟨by rw [HR.out]; rfl, hb4⟩
  · have HR := Lib.hid (show reasonOf l n m = 1 by simp [reasonOf, hok])
    clear hok
    go_wp2
    go_ret
    exact ⟨reti (by rw [HR.out]), hb1⟩

theorem isSafe_c (A Am : Option Addr) (ca cm : Nat) (l : List Cd) (n : Int) (m : List Int) (w : World) (hA : RdC w w.heap.size A l) (hM : RdI w w.heap.size Am m) (hl : l.length ≤ 1000000000) (hml : m.length ≤ 1000000000) :
    Calls Tryz.prog 10 #[.slice A l.length ca, .int .i64 n, .slice Am m.length cm] w fun e w' => e = .returned (.bool (reasonOf l n m == 0)) ∧ Below w.heap.size w w' := by
  go_enter Tryz.func10, Tryz.ntmps10
  go_wp2_with fail
  refine (reason_c A Am ca cm l n m w hA hM hl hml).mono ?_
  rintro e w1 ⟨rfl, b1⟩
  go_wp2
  go_ret
  exact ⟨rfl, b1⟩

end Go.Proofs.YtelbfeidpcojmaaGreat
