/- A slice of instructions that is being drawn: its row, the reader, and that nothing else is turned. -/
import Derived.Test.YtcpjhlkcfohkiaaDraw
import Derived.Test.YtcpjhlkcfohkiaaRetB
import Derived.Test.YtcpjhlkcfohkiaaStru
namespace Go.Proofs.Ytcpjhlkcfohkiaa
open Go.RowKit
set_option linter.unusedVariables false
set_option linter.unusedSimpArgs false

def DSx (w0 : World) (B g K : Nat) (A : Option Addr) (n c : Nat) (w : World) : Prop :=
  ∃ l : List Cd, OC w w0.heap.size A n c l ∧ RdS w B g K ∧ w0.grownBy w (some g) ∧ g < w0.heap.size

section
variable {w0 w w' : World} {B g K n c : Nat} {A : Option Addr}
theorem DSx.rd (h : DSx w0 B g K A n c w) : RdS w B g K := by
  obtain ⟨l, -, h, -⟩ := h
  exact h
theorem DSx.size (h : DSx w0 B g K A n c w) : w0.heap.size ≤ w.heap.size := by
  obtain ⟨l, -, -, h, -⟩ := h
  exact h.size
theorem DSx.gr (h : DSx w0 B g K A n c w) : w0.grownBy w (some g) := by
  obtain ⟨l, -, -, h, -⟩ := h
  exact h
theorem DSx.pick (h : DSx w0 B g K A n c w) {K' : Nat} (hR : RdS w' B g K') (hg : w.grownBy w' (some g)) : DSx w0 B g K' A n c w' := by
  obtain ⟨l, h1, h2, h3, h4⟩ := h
  refine ⟨l, OR.kept h1 hg ?_, hR, h3.trans hg, h4⟩
  cases hb : Value.ownBlock (.slice A n c) with
  | none => exact .inl rfl
  | some k => exact .inr (fun e => by have := (OR.block h1 k hb).1; have := Option.some.inj e; omega)
theorem DSx.alloc (h : DSx w0 B g K A n c w) (o : Obj) : DSx w0 B g K A n c (w.alloc o) := by
  obtain ⟨l, h1, h2, h3, h4⟩ := h
  exact ⟨l, OR.alloc h1 o, h2.alloc o, h3.trans (World.grownBy_alloc _ _ _), h4⟩
theorem DSx.more (h : DSx w0 B g K A n c w) {K' : Nat} (hK : K ≤ K') : DSx w0 B g K' A n c w := by
  obtain ⟨l, h1, h2, h3, h4⟩ := h
  exact ⟨l, h1, h2.more hK, h3, h4⟩
theorem DSx.start (h : RdS w B g K) : DSx w B g K (some ⟨w.heap.size, 0, none⟩) 0 0 (w.alloc (.cells #[] 45)) :=
  ⟨[], OC.empty_ w _ (Nat.le_refl _), h.alloc _, World.grownBy_alloc _ _ _, h.lt⟩
theorem DSx.reads (h : DSx w0 B g K A n c w) : ∃ l : List Cd, l.length = n ∧ RdC w w.heap.size A l ∧ (A = none → c = 0) := by
  obtain ⟨l, h1, -⟩ := h
  obtain rfl := OC.len h1
  exact ⟨l, rfl, OC.rd h1, OC.nilc h1⟩
/-- A slice drawn by a callee, read in the caller. -/
theorem DSx.inner {w1 : World} {K1 : Nat} {A1 : Option Addr} {n1 c1 : Nat} (h : DSx w0 B g K A n c w) (h1 : DSx w B g K1 A1 n1 c1 w1) : DSx w0 B g K1 A n c w1 := h.pick h1.rd h1.gr
theorem rd_lit {lb : Nat} {cs : Array Value} {t : TypeId} {fr : Nat × Nat} {ys : List Cd} (h : w.heap[lb]? = some (.cells cs t fr)) (hcs : cs.toList = cdsCells ys) : RdC w w.heap.size (some ⟨lb, 0, none⟩) ys := by
  refine ⟨by rw [cdsCells_length], fun _ => ⟨lb, 0, rfl, lt_of_block h, fun j u hu => ?_⟩⟩
  rw [Nat.zero_add, cell_of_row w lb j cs t fr h, ← hu, ← hcs]
  simp
end

section
variable {w0 w : World} {B g K n c : Nat} {A : Option Addr} {ops : Array Oper} {rest : List Oper} {o : Oper} {a : Act} {Q : Exit → Act → World → Prop}
theorem app_ds (D : DSx w0 B g K A n c w) (hgd : o.guard = none) (s x : Operand) (ho : o.op = .call { callee := .builtin .append, args := #[s, x], argTypes := #[24, 24] }) (hs : a.eval s = .slice A n c)
    (A2 : Option Addr) (m cc : Nat) (news : List Cd) (hx : a.eval x = .slice A2 m cc) (hm : news.length = m) (hc : A2 = none → cc = 0) (hrd : RdC w w.heap.size A2 news) (hn : n + m ≤ 1000000000)
    (hK : ∀ A' c' w', DSx w0 B g K A' (n + m) c' w' → wpList Try.prog ops Q rest (a.put o.dst (.slice A' (n + m) c')) w') : wpList Try.prog ops Q (o :: rest) a w := by
  obtain ⟨l, h1, h2, h3, h4⟩ := D
  refine app_cs hgd s x ho w0.heap.size A n c l h1 hs w.heap.size A2 m cc news hx hm hc hrd (by omega) h3.size ?_
  intro A' c' w' ho' hg'
  refine hK A' c' w' ⟨_, ho', h2.off hg' (fun k e => ?_), ?_, h4⟩
  · have := (OR.block h1 k e).1
    have := h2.base
    omega
  · cases hb : Value.ownBlock (.slice A n c) with
    | none => rw [hb] at hg'; exact h3.trans (hg'.but _)
    | some k => rw [hb] at hg'; exact grown_then h3 hg' (OR.block h1 k hb).1
theorem app_lit (D : DSx w0 B g K A n c w) (hgd : o.guard = none) (s x : Operand) (ho : o.op = .call { callee := .builtin .append, args := #[s, x], argTypes := #[24, 24] }) (hs : a.eval s = .slice A n c)
    (cs : Array Value) (t : TypeId) (m cc : Nat) (ys : List Cd) (hx : a.eval x = .slice (some ⟨w.heap.size, 0, none⟩) m cc) (hm : ys.length = m) (hcs : cs.toList = cdsCells ys) (hn : n + m ≤ 1000000000)
    (hK : ∀ A' c' w', DSx w0 B g K A' (n + m) c' w' → wpList Try.prog ops Q rest (a.put o.dst (.slice A' (n + m) c')) w') : wpList Try.prog ops Q (o :: rest) a (w.alloc (.cells cs t)) :=
  app_ds (D.alloc _) hgd s x ho hs _ m cc ys hx hm (fun e => by cases e) (rd_lit (heap_alloc_new w (.cells cs t)) hcs) hn hK
end
end Go.Proofs.Ytcpjhlkcfohkiaa
