/- A struct out of a block and into a block, as one step of a list of operations. -/
import Derived.Test.YtcpjhlkcfohkiaaMem2
import Derived.Handy
import Derived.Deep.Cut
import Derived.Deep.CutRange
import Derived.Deep.Draws
import Derived.Maps.RangeWalk
namespace Go.Proofs.Ytcpjhlkcfohkiaa
open Go.RowKit
set_option linter.unusedVariables false
set_option linter.unusedSimpArgs false

section
variable {P : Program} {ops rest : List Oper} {o : Oper} {Q : Exit → Act → World → Prop} {a : Act} {w : World}
theorem wp_store_row {K : Act → World → Prop} (ty : TypeId) (p x : Operand) (ho : o.op = .store ty p x) (b : Nat) (hp : a.eval p = .pointer (some ⟨b, 0, none⟩)) (cs old : Array Value) (t : TypeId)
    (hx : a.eval x = .agg cs) (hh : w.heap[b]? = some (.cells old t (0, 0))) (hi : (P.info? ty).map (·.size) = some cs.size) (hs : old.size = cs.size) (h1 : cs.all (·.oneCell') = true)
    (hK : K (a.put o.dst undef) (w.setRow b cs)) : Oper.wp P o a w K Q := by
  have hrun := run_storeVar_row (P := P) w b t ty old cs hh hi hs h1
  unfold Oper.wp
  simp [execOp, ho, Instr.storeAt, Instr.sureAddr, hp, hx, hrun, Result.andThen]
  exact hK
theorem wpList_load_row {opa : Array Oper} (hg : o.guard = none) (ty : TypeId) (p : Operand) (ho : o.op = .load ty p) (b : Nat) (hp : a.eval p = .pointer (some ⟨b, 0, none⟩)) (cs : Array Value) (t : TypeId) (fr : Nat × Nat)
    (hh : w.heap[b]? = some (.cells cs t fr)) (d : TypeDesc) (hu : P.underlying ty = some d) (hd : (match d with | .struct _ | .array _ _ => true | _ => false) = true) (hi : (P.info? ty).map (·.size) = some cs.size)
    (hK : wpList P opa Q rest (a.put o.dst (.agg cs)) w) : wpList P opa Q (o :: rest) a w := by
  refine wpList_step fun K hk => ?_
  rw [if_pos (by simp [Region.wanted, hg])]
  have hrun := run_loadVar_row (P := P) w b t ty cs fr d hh hu hd hi
  unfold Oper.wp
  simp [execOp, ho, Instr.loadAt, Instr.sureAddr, hp, hrun, Result.andThen]
  exact hk _ _ hK
theorem wpList_store_row {opa : Array Oper} (hg : o.guard = none) (ty : TypeId) (p x : Operand) (ho : o.op = .store ty p x) (b : Nat) (hp : a.eval p = .pointer (some ⟨b, 0, none⟩)) (cs old : Array Value) (t : TypeId)
    (hx : a.eval x = .agg cs) (hh : w.heap[b]? = some (.cells old t (0, 0))) (hi : (P.info? ty).map (·.size) = some cs.size) (hs : old.size = cs.size) (h1 : cs.all (·.oneCell') = true)
    (hK : wpList P opa Q rest (a.put o.dst undef) (w.setRow b cs)) : wpList P opa Q (o :: rest) a w := by
  refine wpList_step fun K hk => ?_
  rw [if_pos (by simp [Region.wanted, hg])]
  have hrun := run_storeVar_row (P := P) w b t ty old cs hh hi hs h1
  unfold Oper.wp
  simp [execOp, ho, Instr.storeAt, Instr.sureAddr, hp, hx, hrun, Result.andThen]
  exact hk _ _ hK
theorem heap_setRow_same {b : Nat} {cs old : Array Value} {t : TypeId} (hh : w.heap[b]? = some (.cells old t (0, 0))) : (w.setRow b cs).heap[b]? = some (.cells cs t (0, 0)) := by
  simp [World.setRow, Array.getElem?_modify, hh]
theorem heap_setRow_other {b j : Nat} {cs : Array Value} (hne : j ≠ b) : (w.setRow b cs).heap[j]? = w.heap[j]? := by
  have : ¬ b = j := fun e => hne e.symm
  simp [World.setRow, Array.getElem?_modify, this]
theorem size_setRow (b : Nat) (cs : Array Value) : (w.setRow b cs).heap.size = w.heap.size := by simp [World.setRow]
theorem grown_cell1 (w : World) (b i : Nat) (v : Value) : w.grownBy (w.setCell ⟨b, i, none⟩ v) (some b) :=
  ⟨rfl, rfl, rfl, by rw [size_set]; exact Nat.le_refl _, fun k hk hne => heap_set_other (fun e => hne (by rw [e])) i v⟩
theorem grown_setRow (b : Nat) (cs : Array Value) : w.grownBy (w.setRow b cs) (some b) :=
  ⟨rfl, rfl, rfl, by rw [size_setRow]; exact Nat.le_refl _, fun k hk hne => heap_setRow_other (fun e => hne (by rw [e]))⟩
theorem below_drewN {B : Nat} {w0 : World} (h : Below B w0 w) (n : Nat) : Below B w0 (w.drewN n) := by
  obtain ⟨h1, h2, h3, h4, h5⟩ := h
  exact ⟨h1, h2, h3, h4, h5⟩
theorem below_setRow {B b : Nat} {cs : Array Value} {w0 : World} (h : Below B w0 w) (hB : B ≤ w0.heap.size) (hb : B ≤ b) : Below B w0 (w.setRow b cs) :=
  h.grown (grown_setRow b cs) (Nat.le_trans hB h.size) (fun k e => by cases e; exact hb)
theorem grown_then {a b c : World} {row : Option Nat} {k : Nat} (h : a.grownBy b row) (h2 : b.grownBy c (some k)) (hk : a.heap.size ≤ k) : a.grownBy c row :=
  ⟨h2.os.trans h.os, h2.tape.trans h.tape, h2.output.trans h.output, Nat.le_trans h.size h2.size, fun j hj hn => (h2.block j (by have := h.size; omega) (fun e => by cases e; omega)).trans (h.block j hj hn)⟩
/-- A function's end: the result, a struct, is copied out of its variable. -/
theorem fin_row {opa : Array Oper} {o1 o2 : Oper} (ty : TypeId) (p1 p2 x : Operand) (ho1 : o1.op = .load ty p1) (ho2 : o2.op = .store ty p2 x) (g1 : o1.guard = none) (g2 : o2.guard = none)
    (b r : Nat) (cs old : Array Value) (t t2 : TypeId) (hh : w.heap[b]? = some (.cells cs t (0, 0))) (hr : w.heap[r]? = some (.cells old t2 (0, 0))) (hp1 : a.eval p1 = .pointer (some ⟨b, 0, none⟩)) (hp2 : (a.put o1.dst (.agg cs)).eval p2 = .pointer (some ⟨r, 0, none⟩))
    (hx : (a.put o1.dst (.agg cs)).eval x = .agg cs) (d : TypeDesc) (hu : P.underlying ty = some d) (hd : (match d with | .struct _ | .array _ _ => true | _ => false) = true) (hi : (P.info? ty).map (·.size) = some cs.size)
    (hs : old.size = cs.size) (h1 : cs.all (·.oneCell') = true) (hK : Q .normal ((a.put o1.dst (.agg cs)).put o2.dst undef) (w.setRow r cs)) : wpList P opa Q [o1, o2] a w :=
  wpList_load_row g1 ty p1 ho1 b hp1 cs t (0, 0) hh d hu hd hi (wpList_store_row g2 ty p2 x ho2 r hp2 cs old t2 hx hr hi hs h1 (wpList_nil hK))
theorem ret_cell {fn : Func} {R : Ending → World → Prop} {t : Tmp} {ty : TypeId} (h : fn.results = #[.cell t ty]) (b : Nat) (ht : a.tmps.getD t undef = .pointer (some ⟨b, 0, none⟩)) (cs : Array Value) (tt : TypeId) (fr : Nat × Nat)
    (hh : w.heap[b]? = some (.cells cs tt fr)) (d : TypeDesc) (hu : P.underlying ty = some d) (hd : (match d with | .struct _ | .array _ _ => true | _ => false) = true) (hi : (P.info? ty).map (·.size) = some cs.size)
    (hf : a.defers = []) (hR : R (.returned (.agg cs)) w) : bodyPost P fn R .ret a w := by
  have hrun := run_loadVar_row (P := P) w b tt ty cs fr d hh hu hd hi
  refine bodyPost_ret ?_ hf hR
  have ht2 : a.tmps[t]?.getD undef = .pointer (some ⟨b, 0, none⟩) := by simpa using ht
  simp [results, h, ht2, asAddr, hrun, Result.andThen]
end
end Go.Proofs.Ytcpjhlkcfohkiaa
