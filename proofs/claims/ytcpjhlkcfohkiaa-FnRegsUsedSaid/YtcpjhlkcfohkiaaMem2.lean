/- More words for memory: appending one own row to another, blocks and what is kept of them. -/
import Derived.Test.YtcpjhlkcfohkiaaHelp2
import Derived.Laws.AppendOwnNone
namespace Go.Proofs.Ytcpjhlkcfohkiaa
open Go.RowKit
set_option linter.unusedVariables false
set_option linter.unusedSimpArgs false

theorem OR.cap_ {w : World} {base e size n c : Nat} {A : Option Addr} {xs : List Value} (h : OR w base e size A n c xs) : n ≤ c := by
  rcases h.2 with ⟨hv, rfl⟩ | ⟨g, cap, cur, hv, _, _, hnc, _⟩
  · exact Nat.zero_le _
  · injection hv with _ _ hc
    omega
theorem OR.heap_ {w : World} {base e size n c g : Nat} {xs : List Value} (h : OR w base e size (some ⟨g, 0, none⟩) n c xs) : ∃ cur, w.heap[g]? = some (.cells cur e (0, 0)) := by
  rcases h.2 with ⟨hv, _⟩ | ⟨g', cap, cur, hv, _, hg, _⟩
  · cases hv
  · injection hv with hA _ _
    injection hA with hA
    injection hA with hA
    subst hA
    exact ⟨cur, hg⟩

theorem below_app {B base e size n c : Nat} {A : Option Addr} {xs : List Value} {w0 w1 w2 : World} {o : Obj} (hb : Below B w0 w1) (hB : B ≤ w1.heap.size) (ho : OR w1 base e size A n c xs) (hbase : B ≤ base)
    (hg : (w1.alloc o).grownBy w2 (Value.ownBlock (.slice A n c))) : Below B w0 w2 :=
  (hb.alloc hB o).grown hg (by simp; omega) (fun k h => Nat.le_trans hbase (ho.block k h).1)

section
variable {w : World} {ops : Array Oper} {rest : List Oper} {o : Oper} {a : Act} {Q : Exit → Act → World → Prop}
/-- append of a whole own row (nil, empty or not). -/
theorem app_own (t e : TypeId) (z : Value) (size bytes : Nat) (ht : Try.prog.underlying t = some (.slice e)) (hinfo : (Try.prog.info? e).map (fun i => (i.zero, i.size, i.bytes)) = some (some z, size, bytes)) (hzs : z.cells.size = size) (hsz : 0 < size) (hby : bytes ≤ 64)
    (hgd : o.guard = none) (s x : Operand) (ho : o.op = .call { callee := .builtin .append, args := #[s, x], argTypes := #[t, t] })
    (base : Nat) (A : Option Addr) (n c : Nat) (xs : List Value) (hown : OR w base e size A n c xs) (hs : a.eval s = .slice A n c)
    (base2 : Nat) (A2 : Option Addr) (m cc : Nat) (news : List Value) (hsrc : OR w base2 e size A2 m cc news) (hx : a.eval x = .slice A2 m cc)
    (h1 : ∀ u ∈ news, u.oneCell' = true) (hn : n + m ≤ 1000000000000) (hbase : base ≤ w.heap.size)
    (hK : ∀ A' c' w', OR w' base e size A' (n + m) c' (xs ++ news) → w.grownBy w' (Value.ownBlock (.slice A n c)) → wpList Try.prog ops Q rest (a.put o.dst (.slice A' (n + m) c')) w') :
    wpList Try.prog ops Q (o :: rest) a w := by
  rcases hsrc.2 with ⟨hv, rfl⟩ | ⟨g, cap, cur, hv, _⟩
  · injection hv with hA _ hc
    subst hA hc
    obtain ⟨i0, hi, hz0, hz1, hz2⟩ := info_parts hinfo
    have hnews : news = [] := List.eq_nil_of_length_eq_zero (by simpa using hsrc.1)
    subst hnews
    refine wpList_append_own_none hgd s x t ho base e i0 size ht hi _ _ _ hs hown hx ?_
    exact hK A c w (by simpa using hown) (grown_refl _ _)
  · injection hv with hA _ hc
    subst hA hc
    exact app_row t e z size bytes ht hinfo hzs hsz hby hgd s x ho base A n c xs hown hs g m cc news hx hsrc.1 hsrc.at0.1 h1 hn hbase hK
end

/-- Every block of w is as it was; there may be new ones. -/
structure Ext (w w' : World) : Prop where
  os : w'.os = w.os
  tape : w'.tape = w.tape
  output : w'.output = w.output
  size : w.heap.size ≤ w'.heap.size
  block : ∀ k, k < w.heap.size → w'.heap[k]? = w.heap[k]?
theorem Ext.of_below {w w' : World} (h : Below w.heap.size w w') : Ext w w' := ⟨h.os, h.tape, h.output, h.size, h.block⟩
theorem Ext.below {w w' : World} (h : Ext w w') : Below w.heap.size w w' := ⟨h.os, h.tape, h.output, h.size, h.block⟩
theorem Ext.refl (w : World) : Ext w w := ⟨rfl, rfl, rfl, Nat.le_refl _, fun _ _ => rfl⟩
theorem Ext.trans {a b c : World} (h : Ext a b) (k : Ext b c) : Ext a c :=
  ⟨k.os.trans h.os, k.tape.trans h.tape, k.output.trans h.output, Nat.le_trans h.size k.size, fun i hi => (k.block i (Nat.lt_of_lt_of_le hi h.size)).trans (h.block i hi)⟩
theorem Ext.alloc (w : World) (o : Obj) : Ext w (w.alloc o) := ⟨rfl, rfl, rfl, by simp, fun k hk => Below.heap_alloc w o k hk⟩
theorem Ext.drew (w : World) : Ext w w.drew := ⟨rfl, rfl, rfl, Nat.le_refl _, fun _ _ => rfl⟩
/-- Writes into new blocks alone. -/
theorem Ext.grown {a b c : World} {row : Option Nat} (h : Ext a b) (hg : b.grownBy c row) (hr : ∀ k, row = some k → a.heap.size ≤ k) : Ext a c :=
  ⟨hg.os.trans h.os, hg.tape.trans h.tape, hg.output.trans h.output, Nat.le_trans h.size hg.size,
    fun k hk => (hg.block k (Nat.lt_of_lt_of_le hk h.size) (fun e => by have := hr k e.symm; omega)).trans (h.block k hk)⟩
theorem Ext.heap_ {w w' : World} (h : Ext w w') {g : Nat} {o : Obj} (hg : w.heap[g]? = some o) : w'.heap[g]? = some o :=
  (h.block g (lt_of_block hg)).trans hg
theorem OR.ext {w w' : World} {base e size n c : Nat} {A : Option Addr} {xs : List Value} (h : OR w base e size A n c xs) (hx : Ext w w') : OR w' base e size A n c xs :=
  h.keep fun k hk _ => hx.block k hk
theorem Ext.cell {w w' : World} (h : Ext w w') {p : Addr} {v : Value} (hc : w.cell? p = some v) : w'.cell? p = some v := cell_kept h.below hc

theorem cell_of_heap {w : World} {g : Nat} {cs : Array Value} {t : TypeId} (h : w.heap[g]? = some (.cells cs t (0, 0))) (i : Nat) : w.cell? ⟨g, i, none⟩ = cs[i]? := cell_of_row w g i cs t (0, 0) h
theorem free_of_heap {w : World} {g : Nat} {cs : Array Value} {t : TypeId} (h : w.heap[g]? = some (.cells cs t (0, 0))) (i : Nat) : w.frozen? ⟨g, i, none⟩ = false := by simp [World.frozen?, h]
theorem heap_set_same {w : World} {g : Nat} {cs : Array Value} {t : TypeId} (h : w.heap[g]? = some (.cells cs t (0, 0))) (i : Nat) (u : Value) : (w.setCell ⟨g, i, none⟩ u).heap[g]? = some (.cells (cs.setIfInBounds i u) t (0, 0)) := by
  simp [World.setCell, Array.getElem?_modify, h]
theorem heap_set_other {w : World} {g b : Nat} (hne : b ≠ g) (i : Nat) (u : Value) : (w.setCell ⟨g, i, none⟩ u).heap[b]? = w.heap[b]? := Below.heap_setCell w _ u b hne
theorem size_set (w : World) (p : Addr) (u : Value) : (w.setCell p u).heap.size = w.heap.size := by simp [World.setCell]
theorem OR.set_other {w : World} {base e size n c : Nat} {A : Option Addr} {xs : List Value} (h : OR w base e size A n c xs) {p : Addr} (hne : Value.ownBlock (.slice A n c) ≠ some p.block) (u : Value) : OR (w.setCell p u) base e size A n c xs :=
  ownsRow_setCell_other h hne u
end Go.Proofs.Ytcpjhlkcfohkiaa
