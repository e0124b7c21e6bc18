/- More words for memory: appending one own row to another, blocks and what is kept of them. -/
import Derived.Test.YtfgbbajkdpideaaCodes
import Derived.Laws.AppendOwnNone
import Derived.Deep.Cut
import Derived.Handy
import Derived.Deep.CutRange
import Derived.Deep.Draws
import Derived.Maps.RangeWalk
import Derived.WalkSpells
import Derived.Test.YtfgbbajkdpideaaSyn
namespace Go.Proofs.Ytfgbbajkdpideaa
open Go.RowKit
set_option linter.unusedVariables false
set_option linter.unusedSimpArgs false

theorem OR.cap_ {w : World} {base e size n c : Nat} {A : Option Addr} {xs : List Value} (h : OR w base e size A n c xs) : n ≤ c := by
  rcases h.2 with ⟨hv, rfl⟩ | ⟨g, cap, cur, hv, _, _, hnc, _⟩
  · exact Nat.zero_le _
  · injection hv with _ _ hc
    omega
theorem OR.heap_ {w : World} {base e size n c g : Nat} {xs : List Value} (h : OR w base e size (some ⟨g, 0, none⟩) n c xs) : ∃ cur, w.heap[g]? = some (.cells cur e (0, 0)) := by
  rcases h.2 with ⟨hv, _⟩ | ⟨g', cap, cur, hv, _, hg, _⟩
  · cases hv
  · injection hv with hA _ _
    injection hA with hA
    injection hA with hA
    subst hA
    exact ⟨cur, hg⟩

theorem below_app {B base e size n c : Nat} {A : Option Addr} {xs : List Value} {w0 w1 w2 : World} {o : Obj} (hb : Below B w0 w1) (hB : B ≤ w1.heap.size) (ho : OR w1 base e size A n c xs) (hbase : B ≤ base)
    (hg : (w1.alloc o).grownBy w2 (Value.ownBlock (.slice A n c))) : Below B w0 w2 :=
  (hb.alloc hB o).grown hg (by simp; omega) (fun k h => Nat.le_trans hbase (ho.block k h).1)

section
variable {w : World} {ops : Array Oper} {rest : List Oper} {o : Oper} {a : Act} {Q : Exit → Act → World → Prop}
/-- append of a whole own row (nil, empty or not). -/
theorem app_own (t e : TypeId) (z : Value) (size bytes : Nat) (ht : Try.prog.underlying t = some (.slice e)) (hinfo : (Try.prog.info? e).map (fun i => (i.zero, i.size, i.bytes)) = some (some z, size, bytes)) (hzs : z.cells.size = size) (hsz : 0 < size) (hby : bytes ≤ 64)
    (hgd : o.guard = none) (s x : Operand) (ho : o.op = .call { callee := .builtin .append, args := #[s, x], argTypes := #[t, t] })
    (base : Nat) (A : Option Addr) (n c : Nat) (xs : List Value) (hown : OR w base e size A n c xs) (hs : a.eval s = .slice A n c)
    (base2 : Nat) (A2 : Option Addr) (m cc : Nat) (news : List Value) (hsrc : OR w base2 e size A2 m cc news) (hx : a.eval x = .slice A2 m cc)
    (h1 : ∀ u ∈ news, u.oneCell' = true) (hn : n + m ≤ 1000000000000) (hbase : base ≤ w.heap.size)
    (hK : ∀ A' c' w', OR w' base e size A' (n + m) c' (xs ++ news) → w.grownBy w' (Value.ownBlock (.slice A n c)) → wpList Try.prog ops Q rest (a.put o.dst (.slice A' (n + m) c')) w') :
    wpList Try.prog ops Q (o :: rest) a w := by
  rcases hsrc.2 with ⟨hv, rfl⟩ | ⟨g, cap, cur, hv, _⟩
  · injection hv with hA _ hc
    subst hA hc
    obtain ⟨i0, hi, hz0, hz1, hz2⟩ := info_parts hinfo
    have hnews : news = [] := List.eq_nil_of_length_eq_zero (by simpa using hsrc.1)
    subst hnews
    refine wpList_append_own_none hgd s x t ho base e i0 size ht hi _ _ _ hs hown hx ?_
    exact hK A c w (by simpa using hown) (grown_refl _ _)
  · injection hv with hA _ hc
    subst hA hc
    exact app_row t e z size bytes ht hinfo hzs hsz hby hgd s x ho base A n c xs hown hs g m cc news hx hsrc.1 hsrc.at0.1 h1 hn hbase hK
end

/-- Every block of w is as it was; there may be new ones. -/
structure Ext (w w' : World) : Prop where
  os : w'.os = w.os
  tape : w'.tape = w.tape
  output : w'.output = w.output
  size : w.heap.size ≤ w'.heap.size
  block : ∀ k, k < w.heap.size → w'.heap[k]? = w.heap[k]?
theorem Ext.of_below {w w' : World} (h : Below w.heap.size w w') : Ext w w' := ⟨h.os, h.tape, h.output, h.size, h.block⟩
theorem Ext.below {w w' : World} (h : Ext w w') : Below w.heap.size w w' := ⟨h.os, h.tape, h.output, h.size, h.block⟩
theorem Ext.refl (w : World) : Ext w w := ⟨rfl, rfl, rfl, Nat.le_refl _, fun _ _ => rfl⟩
theorem Ext.trans {a b c : World} (h : Ext a b) (k : Ext b c) : Ext a c :=
  ⟨k.os.trans h.os, k.tape.trans h.tape, k.output.trans h.output, Nat.le_trans h.size k.size, fun i hi => (k.block i (Nat.lt_of_lt_of_le hi h.size)).trans (h.block i hi)⟩
theorem Ext.alloc (w : World) (o : Obj) : Ext w (w.alloc o) := ⟨rfl, rfl, rfl, by simp, fun k hk => Below.heap_alloc w o k hk⟩
theorem Ext.drew (w : World) : Ext w w.drew := ⟨rfl, rfl, rfl, Nat.le_refl _, fun _ _ => rfl⟩
/-- Writes into new blocks alone. -/
theorem Ext.grown {a b c : World} {row : Option Nat} (h : Ext a b) (hg : b.grownBy c row) (hr : ∀ k, row = some k → a.heap.size ≤ k) : Ext a c :=
  ⟨hg.os.trans h.os, hg.tape.trans h.tape, hg.output.trans h.output, Nat.le_trans h.size hg.size,
    fun k hk => (hg.block k (Nat.lt_of_lt_of_le hk h.size) (fun e => by have := hr k e.symm; omega)).trans (h.block k hk)⟩
theorem Ext.heap_ {w w' : World} (h : Ext w w') {g : Nat} {o : Obj} (hg : w.heap[g]? = some o) : w'.heap[g]? = some o :=
  (h.block g (lt_of_block hg)).trans hg
theorem OR.ext {w w' : World} {base e size n c : Nat} {A : Option Addr} {xs : List Value} (h : OR w base e size A n c xs) (hx : Ext w w') : OR w' base e size A n c xs :=
  h.keep fun k hk _ => hx.block k hk
theorem Ext.cell {w w' : World} (h : Ext w w') {p : Addr} {v : Value} (hc : w.cell? p = some v) : w'.cell? p = some v := cell_kept h.below hc

theorem cell_of_heap {w : World} {g : Nat} {cs : Array Value} {t : TypeId} (h : w.heap[g]? = some (.cells cs t (0, 0))) (i : Nat) : w.cell? ⟨g, i, none⟩ = cs[i]? := cell_of_row w g i cs t (0, 0) h
theorem free_of_heap {w : World} {g : Nat} {cs : Array Value} {t : TypeId} (h : w.heap[g]? = some (.cells cs t (0, 0))) (i : Nat) : w.frozen? ⟨g, i, none⟩ = false := by simp [World.frozen?, h]
theorem heap_set_same {w : World} {g : Nat} {cs : Array Value} {t : TypeId} (h : w.heap[g]? = some (.cells cs t (0, 0))) (i : Nat) (u : Value) : (w.setCell ⟨g, i, none⟩ u).heap[g]? = some (.cells (cs.setIfInBounds i u) t (0, 0)) := by
  simp [World.setCell, Array.getElem?_modify, h]
theorem heap_set_other {w : World} {g b : Nat} (hne : b ≠ g) (i : Nat) (u : Value) : (w.setCell ⟨g, i, none⟩ u).heap[b]? = w.heap[b]? := Below.heap_setCell w _ u b hne
theorem size_set (w : World) (p : Addr) (u : Value) : (w.setCell p u).heap.size = w.heap.size := by simp [World.setCell]
theorem OR.set_other {w : World} {base e size n c : Nat} {A : Option Addr} {xs : List Value} (h : OR w base e size A n c xs) {p : Addr} (hne : Value.ownBlock (.slice A n c) ≠ some p.block) (u : Value) : OR (w.setCell p u) base e size A n c xs :=
  ownsRow_setCell_other h hne u

theorem RdC.at0 {w : World} {B b off : Nat} {l : List Cd} (h : RdC w B (some ⟨b, off, none⟩) l) {k : Nat} {x : Cd} (hx : l[k]? = some x) :
    b < B ∧ w.cell? ⟨b, off + k * 4, none⟩ = some (.int .i64 x.op) ∧ w.cell? ⟨b, off + k * 4 + 1, none⟩ = some (.int .i64 x.a) ∧
      w.cell? ⟨b, off + k * 4 + 2, none⟩ = some (.int .i64 x.b) ∧ w.cell? ⟨b, off + k * 4 + 3, none⟩ = some (.int .i64 x.c) := by
  have hk : k < l.length := (List.getElem?_eq_some_iff.1 hx).1
  obtain ⟨b', off', x', e, hb, hx', h0, h1, h2, h3⟩ := h.at_ hk
  injection e with e
  injection e with e1 e2
  subst e1 e2
  rw [hx] at hx'
  injection hx' with hx'
  subst hx'
  exact ⟨hb, h0, h1, h2, h3⟩

theorem OI.len {w : World} {base n c : Nat} {A : Option Addr} {l : List Int} (h : OI w base A n c l) : l.length = n := by
  have := OR.len h; simpa using this
theorem OC.len {w : World} {base n c : Nat} {A : Option Addr} {l : List Cd} (h : OC w base A n c l) : l.length = n := by
  have := OR.len h; rw [cdsCells_length] at this; omega
theorem OI.rd {w : World} {base c : Nat} {A : Option Addr} {l : List Int} (h : OI w base A l.length c l) : RdI w w.heap.size A l := OR.reads h
theorem OC.rd {w : World} {base c : Nat} {A : Option Addr} {l : List Cd} (h : OC w base A l.length c l) : RdC w w.heap.size A l := OR.reads h
theorem OI.empty_ (w : World) (B : Nat) (hB : B ≤ w.heap.size) : OI (w.alloc (.cells #[] 3)) B (some ⟨w.heap.size, 0, none⟩) 0 0 [] :=
  (OR.lit w w.heap.size _ 1 0 #[] (Nat.le_refl _) (by omega) rfl).mono hB
theorem OC.empty_ (w : World) (B : Nat) (hB : B ≤ w.heap.size) : OC (w.alloc (.cells #[] 50)) B (some ⟨w.heap.size, 0, none⟩) 0 0 [] :=
  (OR.lit w w.heap.size _ 4 0 #[] (Nat.le_refl _) (by omega) rfl).mono hB
theorem OI.nil_ (w : World) (B : Nat) : OI w B none 0 0 [] := OR.nil_ _ _ _ _
theorem OC.nil_ (w : World) (B : Nat) : OC w B none 0 0 [] := OR.nil_ _ _ _ _

/-- A row of the call's own, or an empty slice whatever its address. -/
def OwC (w : World) (base : Nat) (A : Option Addr) (n c : Nat) (l : List Cd) : Prop := (n = 0 ∧ l = [] ∧ (A = none → c = 0)) ∨ OC w base A n c l
def OwI (w : World) (base : Nat) (A : Option Addr) (n c : Nat) (l : List Int) : Prop := (n = 0 ∧ l = []) ∨ OI w base A n c l
theorem OwC.len {w : World} {base n c : Nat} {A : Option Addr} {l : List Cd} (h : OwC w base A n c l) : l.length = n := by
  rcases h with ⟨h1, h2, -⟩ | h
  · rw [h1, h2]; rfl
  · exact OC.len h
theorem OwI.len {w : World} {base n c : Nat} {A : Option Addr} {l : List Int} (h : OwI w base A n c l) : l.length = n := by
  rcases h with ⟨h1, h2⟩ | h
  · rw [h1, h2]; rfl
  · exact OI.len h
theorem OwC.below {w w' : World} {base n c B : Nat} {A : Option Addr} {l : List Cd} (h : OwC w base A n c l) (hb : Below B w w') (hB : w.heap.size ≤ B) : OwC w' base A n c l :=
  h.imp id (fun h => OR.below h hb hB)
theorem OwI.below {w w' : World} {base n c B : Nat} {A : Option Addr} {l : List Int} (h : OwI w base A n c l) (hb : Below B w w') (hB : w.heap.size ≤ B) : OwI w' base A n c l :=
  h.imp id (fun h => OR.below h hb hB)
theorem OwC.rd {w : World} {base c : Nat} {A : Option Addr} {l : List Cd} (h : OwC w base A l.length c l) : RdC w w.heap.size A l := by
  rcases h with ⟨h1, h2, -⟩ | h
  · subst h2; exact Reads.none_.keep fun _ _ => rfl
  · exact OC.rd h
theorem OwI.rd {w : World} {base c : Nat} {A : Option Addr} {l : List Int} (h : OwI w base A l.length c l) : RdI w w.heap.size A l := by
  rcases h with ⟨h1, h2⟩ | h
  · subst h2; exact Reads.none_.keep fun _ _ => rfl
  · exact OI.rd h
theorem OC.nilc {w : World} {base n c : Nat} {A : Option Addr} {l : List Cd} (h : OC w base A n c l) (e : A = none) : c = 0 := by
  subst e
  rcases h.2 with ⟨hv, _⟩ | ⟨g, cap, cur, hv, _⟩
  · injection hv with _ _ h3
  · injection hv with h1
    cases h1
theorem OwC.nilc {w : World} {base n c : Nat} {A : Option Addr} {l : List Cd} (h : OwC w base A n c l) (e : A = none) : c = 0 := by
  rcases h with ⟨_, _, h⟩ | h
  · exact h e
  · exact h.nilc e
/-- A new row of numbers is returned. -/
def RetI (w : World) (l : List Int) (e : Ending) (w' : World) : Prop :=
  ∃ A c, e = .returned (.slice A l.length c) ∧ OwI w' w.heap.size A l.length c l ∧ Below w.heap.size w w'
/-- A new row of instructions is returned. -/
def RetC (w : World) (l : List Cd) (e : Ending) (w' : World) : Prop :=
  ∃ A c, e = .returned (.slice A l.length c) ∧ OwC w' w.heap.size A l.length c l ∧ Below w.heap.size w w'
theorem RetI.of {w w' : World} {l : List Int} {A : Option Addr} {n c : Nat} (h : OI w' w.heap.size A n c l) (hb : Below w.heap.size w w') : RetI w l (.returned (.slice A n c)) w' := by
  obtain rfl := OI.len h
  exact ⟨A, c, rfl, .inr h, hb⟩
theorem RetC.of {w w' : World} {l : List Cd} {A : Option Addr} {n c : Nat} (h : OC w' w.heap.size A n c l) (hb : Below w.heap.size w w') : RetC w l (.returned (.slice A n c)) w' := by
  obtain rfl := OC.len h
  exact ⟨A, c, rfl, .inr h, hb⟩
theorem RetC.mono {w w0 w' : World} {l : List Cd} {e : Ending} (h : RetC w0 l e w') (hb : Below w.heap.size w w0) : RetC w l e w' := by
  obtain ⟨A, c, he, ho, hb2⟩ := h
  exact ⟨A, c, he, ho.imp id (fun h => OR.mono h hb.size), below_trans hb (Nat.le_refl _) hb2⟩
theorem RetI.mono {w w0 w' : World} {l : List Int} {e : Ending} (h : RetI w0 l e w') (hb : Below w.heap.size w w0) : RetI w l e w' := by
  obtain ⟨A, c, he, ho, hb2⟩ := h
  exact ⟨A, c, he, ho.imp id (fun h => OR.mono h hb.size), below_trans hb (Nat.le_refl _) hb2⟩

/-- The four cells of an instruction, in a new block. -/
theorem cd_cells (w : World) (x : Cd) (t : TypeId) :
    (w.alloc (.cells #[.int .i64 x.op, .int .i64 x.a, .int .i64 x.b, .int .i64 x.c] t)).cell? ⟨w.heap.size, 0, none⟩ = some (.int .i64 x.op) ∧
    (w.alloc (.cells #[.int .i64 x.op, .int .i64 x.a, .int .i64 x.b, .int .i64 x.c] t)).cell? ⟨w.heap.size, 1, none⟩ = some (.int .i64 x.a) ∧
    (w.alloc (.cells #[.int .i64 x.op, .int .i64 x.a, .int .i64 x.b, .int .i64 x.c] t)).cell? ⟨w.heap.size, 2, none⟩ = some (.int .i64 x.b) ∧
    (w.alloc (.cells #[.int .i64 x.op, .int .i64 x.a, .int .i64 x.b, .int .i64 x.c] t)).cell? ⟨w.heap.size, 3, none⟩ = some (.int .i64 x.c) := by
  refine ⟨?_, ?_, ?_, ?_⟩ <;> simp [go_sem]

theorem OI.at0 {w : World} {base g n c : Nat} {r : List Int} (h : OI w base (some ⟨g, 0, none⟩) n c r) :
    (∀ j x, r[j]? = some x → w.cell? ⟨g, j, none⟩ = some (.int .i64 x)) ∧ (∀ j, w.frozen? ⟨g, j, none⟩ = false) ∧ (∀ j x, OI (w.setCell ⟨g, j, none⟩ (.int .i64 x)) base (some ⟨g, 0, none⟩) n c (r.set j x)) := by
  have h0 := OR.at0 h
  refine ⟨fun j x hx => h0.1 j _ (by rw [List.getElem?_map, hx]; rfl), h0.2.1, fun j x => ?_⟩
  have := h0.2.2 j (.int .i64 x)
  unfold OI
  rwa [← List.map_set] at this

theorem type_ne {w : World} {a b : Nat} {ca cb : Array Value} {s t : TypeId} (ha : w.heap[a]? = some (.cells ca s (0, 0))) (hb : w.heap[b]? = some (.cells cb t (0, 0))) (h : s ≠ t) : a ≠ b := by
  intro e
  subst e
  rw [ha] at hb
  injection hb with hb
  injection hb with _ hb
  exact h hb

theorem own_ne {w : World} {e size n c : Nat} {A : Option Addr} {xs : List Value} {base b : Nat} {cb : Array Value} {t : TypeId} (h : OR w base e size A n c xs) (hb : w.heap[b]? = some (.cells cb t (0, 0))) (hne : e ≠ t) : Value.ownBlock (.slice A n c) ≠ some b := by
  intro hk
  rcases h.2 with ⟨hv, _⟩ | ⟨g, cap, cur, hv, _, hg, _⟩
  · rw [hv] at hk; simp [Value.ownBlock] at hk
  · rw [hv] at hk
    simp [Value.ownBlock] at hk
    subst hk
    exact type_ne hg hb hne rfl

section
variable {P : Program} {ops rest : List Oper} {o : Oper} {Q : Exit → Act → World → Prop} {a : Act} {w : World}
theorem wp_store_row {K : Act → World → Prop} (ty : TypeId) (p x : Operand) (ho : o.op = .store ty p x) (b : Nat) (hp : a.eval p = .pointer (some ⟨b, 0, none⟩)) (cs old : Array Value) (t : TypeId)
    (hx : a.eval x = .agg cs) (hh : w.heap[b]? = some (.cells old t (0, 0))) (hi : (P.info? ty).map (·.size) = some cs.size) (hs : old.size = cs.size) (h1 : cs.all (·.oneCell') = true)
    (hK : K (a.put o.dst undef) (w.setRow b cs)) : Oper.wp P o a w K Q := by
  have hrun := run_storeVar_row (P := P) w b t ty old cs hh hi hs h1
  unfold Oper.wp
  simp [execOp, ho, Instr.storeAt, Instr.sureAddr, hp, hx, hrun, Result.andThen]
  exact hK
theorem wpList_load_row {opa : Array Oper} (hg : o.guard = none) (ty : TypeId) (p : Operand) (ho : o.op = .load ty p) (b : Nat) (hp : a.eval p = .pointer (some ⟨b, 0, none⟩)) (cs : Array Value) (t : TypeId) (fr : Nat × Nat)
    (hh : w.heap[b]? = some (.cells cs t fr)) (d : TypeDesc) (hu : P.underlying ty = some d) (hd : (match d with | .struct _ | .array _ _ => true | _ => false) = true) (hi : (P.info? ty).map (·.size) = some cs.size)
    (hK : wpList P opa Q rest (a.put o.dst (.agg cs)) w) : wpList P opa Q (o :: rest) a w := by
  refine wpList_step fun K hk => ?_
  rw [if_pos (by simp [Region.wanted, hg])]
  have hrun := run_loadVar_row (P := P) w b t ty cs fr d hh hu hd hi
  unfold Oper.wp
  simp [execOp, ho, Instr.loadAt, Instr.sureAddr, hp, hrun, Result.andThen]
  exact hk _ _ hK
theorem wpList_store_row {opa : Array Oper} (hg : o.guard = none) (ty : TypeId) (p x : Operand) (ho : o.op = .store ty p x) (b : Nat) (hp : a.eval p = .pointer (some ⟨b, 0, none⟩)) (cs old : Array Value) (t : TypeId)
    (hx : a.eval x = .agg cs) (hh : w.heap[b]? = some (.cells old t (0, 0))) (hi : (P.info? ty).map (·.size) = some cs.size) (hs : old.size = cs.size) (h1 : cs.all (·.oneCell') = true)
    (hK : wpList P opa Q rest (a.put o.dst undef) (w.setRow b cs)) : wpList P opa Q (o :: rest) a w := by
  refine wpList_step fun K hk => ?_
  rw [if_pos (by simp [Region.wanted, hg])]
  have hrun := run_storeVar_row (P := P) w b t ty old cs hh hi hs h1
  unfold Oper.wp
  simp [execOp, ho, Instr.storeAt, Instr.sureAddr, hp, hx, hrun, Result.andThen]
  exact hk _ _ hK
theorem heap_setRow_same {b : Nat} {cs old : Array Value} {t : TypeId} (hh : w.heap[b]? = some (.cells old t (0, 0))) : (w.setRow b cs).heap[b]? = some (.cells cs t (0, 0)) := by
  simp [World.setRow, Array.getElem?_modify, hh]
theorem heap_setRow_other {b j : Nat} {cs : Array Value} (hne : j ≠ b) : (w.setRow b cs).heap[j]? = w.heap[j]? := by
  have : ¬ b = j := fun e => hne e.symm
  simp [World.setRow, Array.getElem?_modify, this]
theorem size_setRow (b : Nat) (cs : Array Value) : (w.setRow b cs).heap.size = w.heap.size := by simp [World.setRow]
theorem grown_cell1 (w : World) (b i : Nat) (v : Value) : w.grownBy (w.setCell ⟨b, i, none⟩ v) (some b) :=
  ⟨rfl, rfl, rfl, by rw [size_set]; exact Nat.le_refl _, fun k hk hne => heap_set_other (fun e => hne (by rw [e])) i v⟩
theorem grown_setRow (b : Nat) (cs : Array Value) : w.grownBy (w.setRow b cs) (some b) :=
  ⟨rfl, rfl, rfl, by rw [size_setRow]; exact Nat.le_refl _, fun k hk hne => heap_setRow_other (fun e => hne (by rw [e]))⟩
theorem below_drewN {B : Nat} {w0 : World} (h : Below B w0 w) (n : Nat) : Below B w0 (w.drewN n) := by
  obtain ⟨h1, h2, h3, h4, h5⟩ := h
  exact ⟨h1, h2, h3, h4, h5⟩
theorem below_setRow {B b : Nat} {cs : Array Value} {w0 : World} (h : Below B w0 w) (hB : B ≤ w0.heap.size) (hb : B ≤ b) : Below B w0 (w.setRow b cs) :=
  h.grown (grown_setRow b cs) (Nat.le_trans hB h.size) (fun k e => by cases e; exact hb)
theorem grown_then {a b c : World} {row : Option Nat} {k : Nat} (h : a.grownBy b row) (h2 : b.grownBy c (some k)) (hk : a.heap.size ≤ k) : a.grownBy c row :=
  ⟨h2.os.trans h.os, h2.tape.trans h.tape, h2.output.trans h.output, Nat.le_trans h.size h2.size, fun j hj hn => (h2.block j (by have := h.size; omega) (fun e => by cases e; omega)).trans (h.block j hj hn)⟩
/-- A function's end: the result, a struct, is copied out of its variable. -/
theorem fin_row {opa : Array Oper} {o1 o2 : Oper} (ty : TypeId) (p1 p2 x : Operand) (ho1 : o1.op = .load ty p1) (ho2 : o2.op = .store ty p2 x) (g1 : o1.guard = none) (g2 : o2.guard = none)
    (b r : Nat) (cs old : Array Value) (t t2 : TypeId) (hh : w.heap[b]? = some (.cells cs t (0, 0))) (hr : w.heap[r]? = some (.cells old t2 (0, 0))) (hp1 : a.eval p1 = .pointer (some ⟨b, 0, none⟩)) (hp2 : (a.put o1.dst (.agg cs)).eval p2 = .pointer (some ⟨r, 0, none⟩))
    (hx : (a.put o1.dst (.agg cs)).eval x = .agg cs) (d : TypeDesc) (hu : P.underlying ty = some d) (hd : (match d with | .struct _ | .array _ _ => true | _ => false) = true) (hi : (P.info? ty).map (·.size) = some cs.size)
    (hs : old.size = cs.size) (h1 : cs.all (·.oneCell') = true) (hK : Q .normal ((a.put o1.dst (.agg cs)).put o2.dst undef) (w.setRow r cs)) : wpList P opa Q [o1, o2] a w :=
  wpList_load_row g1 ty p1 ho1 b hp1 cs t (0, 0) hh d hu hd hi (wpList_store_row g2 ty p2 x ho2 r hp2 cs old t2 hx hr hi hs h1 (wpList_nil hK))
theorem ret_cell {fn : Func} {R : Ending → World → Prop} {t : Tmp} {ty : TypeId} (h : fn.results = #[.cell t ty]) (b : Nat) (ht : a.tmps.getD t undef = .pointer (some ⟨b, 0, none⟩)) (cs : Array Value) (tt : TypeId) (fr : Nat × Nat)
    (hh : w.heap[b]? = some (.cells cs tt fr)) (d : TypeDesc) (hu : P.underlying ty = some d) (hd : (match d with | .struct _ | .array _ _ => true | _ => false) = true) (hi : (P.info? ty).map (·.size) = some cs.size)
    (hf : a.defers = []) (hR : R (.returned (.agg cs)) w) : bodyPost P fn R .ret a w := by
  have hrun := run_loadVar_row (P := P) w b tt ty cs fr d hh hu hd hi
  refine bodyPost_ret ?_ hf hR
  have ht2 : a.tmps[t]?.getD undef = .pointer (some ⟨b, 0, none⟩) := by simpa using ht
  simp [results, h, ht2, asAddr, hrun, Result.andThen]
end

section
variable {w : World} {ops : Array Oper} {rest : List Oper} {o : Oper} {a : Act} {Q : Exit → Act → World → Prop}
set_option maxRecDepth 100000 in
/-- append of elements that lie in a slice that is read. -/
theorem app_rd (t e : TypeId) (z : Value) (size bytes : Nat) (ht : Try.prog.underlying t = some (.slice e)) (hinfo : (Try.prog.info? e).map (fun i => (i.zero, i.size, i.bytes)) = some (some z, size, bytes)) (hzs : z.cells.size = size) (hsz : 0 < size) (hby : bytes ≤ 64)
    (hgd : o.guard = none) (s x : Operand) (ho : o.op = .call { callee := .builtin .append, args := #[s, x], argTypes := #[t, t] })
    (base : Nat) (A : Option Addr) (n c : Nat) (xs : List Value) (hown : OR w base e size A n c xs) (hs : a.eval s = .slice A n c)
    (B : Nat) (ad : Addr) (m cc : Nat) (news : List Value) (hx : a.eval x = .slice (some ad) m cc) (hrd : Reads w B size (some ad) m news)
    (h1 : ∀ u ∈ news, u.oneCell' = true) (hn : n + m ≤ 1000000000000) (hbase : base ≤ w.heap.size)
    (hK : ∀ A' c' w', OR w' base e size A' (n + m) c' (xs ++ news) → w.grownBy w' (Value.ownBlock (.slice A n c)) → wpList Try.prog ops Q rest (a.put o.dst (.slice A' (n + m) c')) w') :
    wpList Try.prog ops Q (o :: rest) a w := by
  obtain ⟨i0, hi, hz0, hz1, hz2⟩ := info_parts hinfo
  have hb : (n + m) * bytes ≤ 140737488355328 := Nat.le_trans (Nat.mul_le_mul_left _ hby) (by omega)
  refine wpList_append_own _ hgd s x t ho base e i0 z size bytes ht hi hz0 hz1 hz2 hzs hsz _ _ _ hs hown ad m cc news hx hrd.1 ?_ h1 (by unfold maxLen; omega) hb hbase ?_
  · intro j u hu
    rcases Nat.eq_zero_or_pos m with h0 | h0
    · subst h0
      have := hrd.1
      rw [Nat.zero_mul] at this
      rw [List.eq_nil_of_length_eq_zero this] at hu
      simp at hu
    · obtain ⟨b, off, e1, _, hc⟩ := hrd.2 h0
      injection e1 with e1
      subst e1
      rw [add_lit]
      exact hc j u hu
  · intro v' w' hown' hgrow _
    obtain ⟨A', c', rfl, h'⟩ := OR.slice_ hown'
    exact hK A' c' w' h' hgrow
end

theorem ints_one (l : List Int) : ∀ u ∈ l.map (Value.int .i64), u.oneCell' = true := by
  intro u hu
  obtain ⟨x, _, rfl⟩ := List.mem_map.1 hu
  rfl
theorem cds_one (l : List Cd) : ∀ u ∈ cdsCells l, u.oneCell' = true := by
  intro u hu
  simp only [cdsCells, List.mem_flatMap] at hu
  obtain ⟨x, _, hu⟩ := hu
  simp [cdCells] at hu
  rcases hu with rfl | rfl | rfl | rfl <;> rfl

set_option maxRecDepth 100000 in
set_option maxHeartbeats 1000000 in
theorem cloneI_c (A : Option Addr) (c : Nat) (l : List Int) (w : World) (hA : RdI w w.heap.size A l) (hl : l.length ≤ 1000000000) (hc : A = none → c = 0) :
    Calls Try.prog 45 #[.slice A l.length c] w (fun e w' => ∃ A' c', e = .returned (.slice A' l.length c') ∧ OI w' w.heap.size A' l.length c' l ∧ Below w.heap.size w w') := by
  cases A with
  | none =>
    have hl0 : l = [] := by
      rcases Nat.eq_zero_or_pos l.length with h | h
      · exact List.eq_nil_of_length_eq_zero h
      · obtain ⟨b, off, e, _⟩ := hA.2 (by omega); cases e
    subst hl0
    obtain rfl := hc rfl
    have k1 := fun w' : World => Lib.run_eql_slice_nil (P := Try.prog) w' 27 3 none 0 0 0 0 Try.underlying27
    go_enter Try.func45, Try.ntmps45
    go_wp2
    go_ret
    exact ⟨none, 0, rfl, OI.nil_ _ _, (by repeat (first | exact Below.refl _ _ | assumption | refine Below.alloc ?_ (by simp <;> omega) _ | refine Below.setCell ?_ (by simp <;> omega) _ | refine Below.drew ?_))⟩
  | some ad =>
    have k1 := fun w' : World => Lib.run_eql_slice_nil (P := Try.prog) w' 27 3 (some ad) l.length c 0 0 Try.underlying27
    have ho := Lib.hid (OI.empty_ w w.heap.size (Nat.le_refl _))
    have hA2 := Lib.hid (hA.below ((Below.refl w.heap.size w).alloc (Nat.le_refl _) (.cells #[] 3)))
    go_enter Try.func45, Try.ntmps45
    go_wp2_with (at_builtin; refine app_rd 27 3 _ 1 8 Try.underlying27 infoInt rfl (by decide) (by decide) rfl _ _ rfl w.heap.size _ 0 0 _ ho.out rfl w.heap.size ad l.length c _ rfl hA2.out (ints_one l) ?hn ?hb ?_)
    case hn => omega
    case hb => simp
    intro A' c' w2 ho2 hg2
    clear k1
    go_wp2
    go_ret
    refine ⟨A', c', by simp, ?_, ?_⟩
    · exact ho2
    · exact ((Below.refl w.heap.size w).alloc (Nat.le_refl _) _).grown hg2 (by simp) (fun k hk => by simp [Value.ownBlock] at hk; omega)

/-- A new row of instructions and a bool are returned. -/
def RetCb (w : World) (l : List Cd) (b : Bool) (e : Ending) (w' : World) : Prop :=
  ∃ A c, e = .returned (.tuple #[.slice A l.length c, .bool b]) ∧ OC w' w.heap.size A l.length c l ∧ Below w.heap.size w w'
theorem RetCb.of {w w' : World} {l : List Cd} {b : Bool} {A : Option Addr} {n c : Nat} (h : OC w' w.heap.size A n c l) (hb : Below w.heap.size w w') : RetCb w l b (.returned (.tuple #[.slice A n c, .bool b])) w' := by
  obtain rfl := OC.len h
  exact ⟨A, c, rfl, h, hb⟩
theorem OC.ow {w : World} {base n c : Nat} {A : Option Addr} {l : List Cd} (h : OC w base A n c l) : OwC w base A n c l := .inr h
theorem below_gr {B base e size n c : Nat} {A : Option Addr} {xs : List Value} {w0 w1 w2 : World} (hb : Below B w0 w1) (hB : B ≤ w1.heap.size) (ho : OR w1 base e size A n c xs) (hbase : B ≤ base)
    (hg : w1.grownBy w2 (Value.ownBlock (.slice A n c))) : Below B w0 w2 :=
  hb.grown hg hB (fun k h => Nat.le_trans hbase (ho.block k h).1)
theorem nilC {w : World} {B : Nat} {A : Option Addr} {l : List Cd} (h : RdC w B A l) (e : A = none) : l.length = 0 := by
  subst e
  rcases Nat.eq_zero_or_pos l.length with h0 | h0
  · exact h0
  · obtain ⟨b, off, e, _⟩ := h.2 h0
    cases e
/-- A part of a slice that is read. -/
theorem RdC.sub {w : World} {B b off : Nat} {l : List Cd} (h : RdC w B (some ⟨b, off, none⟩) l) (i n : Nat) (hn : i + n ≤ l.length) : RdC w B (some ⟨b, off + i * 4, none⟩) ((l.drop i).take n) := by
  refine ⟨by rw [cdsCells_length], fun hp => ?_⟩
  have hlen : ((l.drop i).take n).length = n := by simp; omega
  have hl0 : 0 < l.length := by omega
  obtain ⟨b', off', e, hb, hc⟩ := h.2 hl0
  injection e with e
  injection e with e1 e2
  subst e1 e2
  refine ⟨b, off + i * 4, rfl, hb, fun j u hu => ?_⟩
  have hj : j < n * 4 := by
    have := (List.getElem?_eq_some_iff.1 hu).1
    rw [cdsCells_length, hlen] at this
    exact this
  have hk : j / 4 < n := by omega
  have hx : l[i + j / 4]? = some (l[i + j / 4]'(by omega)) := List.getElem?_eq_getElem (by omega)
  have hx2 : ((l.drop i).take n)[j / 4]? = some (l[i + j / 4]'(by omega)) := by
    rw [List.getElem?_take, if_pos hk, List.getElem?_drop, hx]
  have q1 := cdsCells_get _ _ _ hx (j % 4) (Nat.mod_lt _ (by decide))
  have q2 := cdsCells_get _ _ _ hx2 (j % 4) (Nat.mod_lt _ (by decide))
  rw [show j / 4 * 4 + j % 4 = j by omega] at q2
  rw [q2, ← q1] at hu
  have := hc _ u hu
  rw [show off + i * 4 + j = off + ((i + j / 4) * 4 + j % 4) by omega]
  exact this
theorem cdAt_get' {l : List Cd} {k : Nat} (h : k < l.length) : l[k]? = some (cdAt l k) := by
  unfold cdAt
  rw [List.getElem?_eq_getElem h]

section
variable {w : World} {ops : Array Oper} {rest : List Oper} {o : Oper} {a : Act} {Q : Exit → Act → World → Prop}
set_option maxRecDepth 100000 in
/-- append of a slice of instructions that is read. -/
theorem app_cs (hgd : o.guard = none) (s x : Operand) (ho : o.op = .call { callee := .builtin .append, args := #[s, x], argTypes := #[23, 23] })
    (base : Nat) (A : Option Addr) (n c : Nat) (xs : List Cd) (hown : OC w base A n c xs) (hs : a.eval s = .slice A n c)
    (B : Nat) (A2 : Option Addr) (m cc : Nat) (news : List Cd) (hx : a.eval x = .slice A2 m cc) (hm : news.length = m) (hc : A2 = none → cc = 0) (hrd : RdC w B A2 news)
    (hn : n + m ≤ 1000000000000) (hbase : base ≤ w.heap.size)
    (hK : ∀ A' c' w', OC w' base A' (n + m) c' (xs ++ news) → w.grownBy w' (Value.ownBlock (.slice A n c)) → wpList Try.prog ops Q rest (a.put o.dst (.slice A' (n + m) c')) w') :
    wpList Try.prog ops Q (o :: rest) a w := by
  cases A2 with
  | none =>
    obtain rfl := hc rfl
    have h0 := nilC hrd rfl
    obtain rfl : m = 0 := by omega
    obtain rfl : news = [] := List.eq_nil_of_length_eq_zero h0
    obtain ⟨i0, hi, hz0, hz1, hz2⟩ := info_parts infoCode
    refine wpList_append_own_none hgd s x 23 ho base 50 i0 4 Try.underlying23 hi _ _ _ hs hown hx ?_
    exact hK A c w (by simpa using hown) (grown_refl _ _)
  | some ad =>
    subst hm
    refine app_rd 23 50 _ 4 32 Try.underlying23 infoCode rfl (by decide) (by decide) hgd s x ho base A n c _ hown hs B ad news.length cc _ hx hrd (cds_one news) hn hbase ?_
    intro A' c' w' h hg
    exact hK A' c' w' (by unfold OC; rw [cdsCells_append]; exact h) hg
end

end Go.Proofs.Ytfgbbajkdpideaa
