/- Part 4 of what the claim needs. -/
import Derived.Test.YtelbfeidpcojmaaGreatSa1
import Derived.Test.YtelbfeidpcojmaaGreatSa3
import Derived.Laws.AppendOwnNone
import Derived.Deep.Cut
import Derived.Handy
import Derived.Deep.CutRange
import Derived.Deep.Draws
import Derived.Maps.RangeWalk
import Derived.WalkSpells
import Derived.RowKit3
namespace Go.Proofs.YtelbfeidpcojmaaGreat
open Go.RowKit
set_option linter.unusedVariables false
set_option linter.unusedSimpArgs false

theorem OR.cap_ {w : World} {base e size n c : Nat} {A : Option Addr} {xs : List Value} (h : OR w base e size A n c xs) : n ≤ c := by
  rcases h.2 with ⟨hv, rfl⟩ | ⟨g, cap, cur, hv, _, _, hnc, _⟩
  · exact Nat.zero_le _
  · injection hv with _ _ hc
    omega
theorem OR.heap_ {w : World} {base e size n c g : Nat} {xs : List Value} (h : OR w base e size (some ⟨g, 0, none⟩) n c xs) : ∃ cur, w.heap[g]? = some (.cells cur e (0, 0)) := by
  rcases h.2 with ⟨hv, _⟩ | ⟨g', cap, cur, hv, _, hg, _⟩
  · cases hv
  · injection hv with hA _ _
    injection hA with hA
    injection hA with hA
    subst hA
    exact ⟨cur, hg⟩

theorem below_app {B base e size n c : Nat} {A : Option Addr} {xs : List Value} {w0 w1 w2 : World} {o : Obj} (hb : Below B w0 w1) (hB : B ≤ w1.heap.size) (ho : OR w1 base e size A n c xs) (hbase : B ≤ base)
    (hg : (w1.alloc o).grownBy w2 (Value.ownBlock (.slice A n c))) : Below B w0 w2 :=
  (hb.alloc hB o).grown hg (by simp; omega) (fun k h => Nat.le_trans hbase (ho.block k h).1)

section
variable {w : World} {ops : Array Oper} {rest : List Oper} {o : Oper} {a : Act} {Q : Exit → Act → World → Prop}
/-- append of a whole own row (nil, empty or not). -/
theorem app_own (t e : TypeId) (z : Value) (size bytes : Nat) (ht : Tryz.prog.underlying t = some (.slice e)) (hinfo : (Tryz.prog.info? e).map (fun i => (i.zero, i.size, i.bytes)) = some (some z, size, bytes)) (hzs : z.cells.size = size) (hsz : 0 < size) (hby : bytes ≤ 64)
    (hgd : o.guard = none) (s x : Operand) (ho : o.op = .call { callee := .builtin .append, args := #[s, x], argTypes := #[t, t] })
    (base : Nat) (A : Option Addr) (n c : Nat) (xs : List Value) (hown : OR w base e size A n c xs) (hs : a.eval s = .slice A n c)
    (base2 : Nat) (A2 : Option Addr) (m cc : Nat) (news : List Value) (hsrc : OR w base2 e size A2 m cc news) (hx : a.eval x = .slice A2 m cc)
    (h1 : ∀ u ∈ news, u.oneCell' = true) (hn : n + m ≤ 1000000000000) (hbase : base ≤ w.heap.size)
    (hK : ∀ A' c' w', OR w' base e size A' (n + m) c' (xs ++ news) → w.grownBy w' (Value.ownBlock (.slice A n c)) → wpList Tryz.prog ops Q rest (a.put o.dst (.slice A' (n + m) c')) w') :
    wpList Tryz.prog ops Q (o :: rest) a w := by
  rcases hsrc.2 with ⟨hv, rfl⟩ | ⟨g, cap, cur, hv, _⟩
  · injection hv with hA _ hc
    subst hA hc
    obtain ⟨i0, hi, hz0, hz1, hz2⟩ := info_parts hinfo
    have hnews : news = [] := List.eq_nil_of_length_eq_zero (by simpa using hsrc.1)
    subst hnews
    refine wpList_append_own_none hgd s x t ho base e i0 size ht hi _ _ _ hs hown hx ?_
    exact hK A c w (by simpa using hown) (grown_refl _ _)
  · injection hv with hA _ hc
    subst hA hc
    exact app_row t e z size bytes ht hinfo hzs hsz hby hgd s x ho base A n c xs hown hs g m cc news hx hsrc.1 hsrc.at0.1 h1 hn hbase hK
end

/-- Every block of w is as it was; there may be new ones. -/
structure Ext (w w' : World) : Prop where
  os : w'.os = w.os
  tape : w'.tape = w.tape
  output : w'.output = w.output
  size : w.heap.size ≤ w'.heap.size
  block : ∀ k, k < w.heap.size → w'.heap[k]? = w.heap[k]?
theorem Ext.of_below {w w' : World} (h : Below w.heap.size w w') : Ext w w' := ⟨h.os, h.tape, h.output, h.size, h.block⟩
theorem Ext.below {w w' : World} (h : Ext w w') : Below w.heap.size w w' := ⟨h.os, h.tape, h.output, h.size, h.block⟩
theorem Ext.refl (w : World) : Ext w w := ⟨rfl, rfl, rfl, Nat.le_refl _, fun _ _ => rfl⟩
theorem Ext.trans {a b c : World} (h : Ext a b) (k : Ext b c) : Ext a c :=
  ⟨k.os.trans h.os, k.tape.trans h.tape, k.output.trans h.output, Nat.le_trans h.size k.size, fun i hi => (k.block i (Nat.lt_of_lt_of_le hi h.size)).trans (h.block i hi)⟩
theorem Ext.alloc (w : World) (o : Obj) : Ext w (w.alloc o) := ⟨rfl, rfl, rfl, by simp, fun k hk => Below.heap_alloc w o k hk⟩
theorem Ext.drew (w : World) : Ext w w.drew := ⟨rfl, rfl, rfl, Nat.le_refl _, fun _ _ => rfl⟩
/-- Writes into new blocks alone. -/
theorem Ext.grown {a b c : World} {row : Option Nat} (h : Ext a b) (hg : b.grownBy c row) (hr : ∀ k, row = some k → a.heap.size ≤ k) : Ext a c :=
  ⟨hg.os.trans h.os, hg.tape.trans h.tape, hg.output.trans h.output, Nat.le_trans h.size hg.size,
    fun k hk => (hg.block k (Nat.lt_of_lt_of_le hk h.size) (fun e => by have := hr k e.symm; omega)).trans (h.block k hk)⟩
theorem Ext.heap_ {w w' : World} (h : Ext w w') {g : Nat} {o : Obj} (hg : w.heap[g]? = some o) : w'.heap[g]? = some o :=
  (h.block g (lt_of_block hg)).trans hg
theorem OR.ext {w w' : World} {base e size n c : Nat} {A : Option Addr} {xs : List Value} (h : OR w base e size A n c xs) (hx : Ext w w') : OR w' base e size A n c xs :=
  h.keep fun k hk _ => hx.block k hk
theorem Ext.cell {w w' : World} (h : Ext w w') {p : Addr} {v : Value} (hc : w.cell? p = some v) : w'.cell? p = some v := cell_kept h.below hc

theorem cell_of_heap {w : World} {g : Nat} {cs : Array Value} {t : TypeId} (h : w.heap[g]? = some (.cells cs t (0, 0))) (i : Nat) : w.cell? ⟨g, i, none⟩ = cs[i]? := cell_of_row w g i cs t (0, 0) h
theorem free_of_heap {w : World} {g : Nat} {cs : Array Value} {t : TypeId} (h : w.heap[g]? = some (.cells cs t (0, 0))) (i : Nat) : w.frozen? ⟨g, i, none⟩ = false := by simp [World.frozen?, h]
theorem heap_set_same {w : World} {g : Nat} {cs : Array Value} {t : TypeId} (h : w.heap[g]? = some (.cells cs t (0, 0))) (i : Nat) (u : Value) : (w.setCell ⟨g, i, none⟩ u).heap[g]? = some (.cells (cs.setIfInBounds i u) t (0, 0)) := by
  simp [World.setCell, Array.getElem?_modify, h]
theorem heap_set_other {w : World} {g b : Nat} (hne : b ≠ g) (i : Nat) (u : Value) : (w.setCell ⟨g, i, none⟩ u).heap[b]? = w.heap[b]? := Below.heap_setCell w _ u b hne
theorem size_set (w : World) (p : Addr) (u : Value) : (w.setCell p u).heap.size = w.heap.size := by simp [World.setCell]
theorem OR.set_other {w : World} {base e size n c : Nat} {A : Option Addr} {xs : List Value} (h : OR w base e size A n c xs) {p : Addr} (hne : Value.ownBlock (.slice A n c) ≠ some p.block) (u : Value) : OR (w.setCell p u) base e size A n c xs :=
  ownsRow_setCell_other h hne u

theorem RdC.at0 {w : World} {B b off : Nat} {l : List Cd} (h : RdC w B (some ⟨b, off, none⟩) l) {k : Nat} {x : Cd} (hx : l[k]? = some x) :
    b < B ∧ w.cell? ⟨b, off + k * 4, none⟩ = some (.int .i64 x.op) ∧ w.cell? ⟨b, off + k * 4 + 1, none⟩ = some (.int .i64 x.a) ∧
      w.cell? ⟨b, off + k * 4 + 2, none⟩ = some (.int .i64 x.b) ∧ w.cell? ⟨b, off + k * 4 + 3, none⟩ = some (.int .i64 x.c) := by
  have hk : k < l.length := (List.getElem?_eq_some_iff.1 hx).1
  obtain ⟨b', off', x', e, hb, hx', h0, h1, h2, h3⟩ := h.at_ hk
  injection e with e
  injection e with e1 e2
  subst e1 e2
  rw [hx] at hx'
  injection hx' with hx'
  subst hx'
  exact ⟨hb, h0, h1, h2, h3⟩

theorem OI.len {w : World} {base n c : Nat} {A : Option Addr} {l : List Int} (h : OI w base A n c l) : l.length = n := by
  have := OR.len h; simpa using this
theorem OC.len {w : World} {base n c : Nat} {A : Option Addr} {l : List Cd} (h : OC w base A n c l) : l.length = n := by
  have := OR.len h; rw [cdsCells_length] at this; omega
theorem OI.rd {w : World} {base c : Nat} {A : Option Addr} {l : List Int} (h : OI w base A l.length c l) : RdI w w.heap.size A l := OR.reads h
theorem OC.rd {w : World} {base c : Nat} {A : Option Addr} {l : List Cd} (h : OC w base A l.length c l) : RdC w w.heap.size A l := OR.reads h
theorem OI.empty_ (w : World) (B : Nat) (hB : B ≤ w.heap.size) : OI (w.alloc (.cells #[] 3)) B (some ⟨w.heap.size, 0, none⟩) 0 0 [] :=
  (OR.lit w w.heap.size _ 1 0 #[] (Nat.le_refl _) (by omega) rfl).mono hB
theorem OC.empty_ (w : World) (B : Nat) (hB : B ≤ w.heap.size) : OC (w.alloc (.cells #[] 76)) B (some ⟨w.heap.size, 0, none⟩) 0 0 [] :=
  (OR.lit w w.heap.size _ 4 0 #[] (Nat.le_refl _) (by omega) rfl).mono hB
theorem OI.nil_ (w : World) (B : Nat) : OI w B none 0 0 [] := OR.nil_ _ _ _ _
theorem OC.nil_ (w : World) (B : Nat) : OC w B none 0 0 [] := OR.nil_ _ _ _ _

/-- A row of the call's own, or an empty slice whatever its address. -/
def OwC (w : World) (base : Nat) (A : Option Addr) (n c : Nat) (l : List Cd) : Prop := (n = 0 ∧ l = [] ∧ (A = none → c = 0)) ∨ OC w base A n c l
def OwI (w : World) (base : Nat) (A : Option Addr) (n c : Nat) (l : List Int) : Prop := (n = 0 ∧ l = []) ∨ OI w base A n c l
theorem OwC.len {w : World} {base n c : Nat} {A : Option Addr} {l : List Cd} (h : OwC w base A n c l) : l.length = n := by
  rcases h with ⟨h1, h2, -⟩ | h
  · rw [h1, h2]; rfl
  · exact OC.len h
theorem OwI.len {w : World} {base n c : Nat} {A : Option Addr} {l : List Int} (h : OwI w base A n c l) : l.length = n := by
  rcases h with ⟨h1, h2⟩ | h
  · rw [h1, h2]; rfl
  · exact OI.len h
theorem OwC.below {w w' : World} {base n c B : Nat} {A : Option Addr} {l : List Cd} (h : OwC w base A n c l) (hb : Below B w w') (hB : w.heap.size ≤ B) : OwC w' base A n c l :=
  h.imp id (fun h => OR.below h hb hB)
theorem OwI.below {w w' : World} {base n c B : Nat} {A : Option Addr} {l : List Int} (h : OwI w base A n c l) (hb : Below B w w') (hB : w.heap.size ≤ B) : OwI w' base A n c l :=
  h.imp id (fun h => OR.below h hb hB)
theorem OwC.rd {w : World} {base c : Nat} {A : Option Addr} {l : List Cd} (h : OwC w base A l.length c l) : RdC w w.heap.size A l := by
  rcases h with ⟨h1, h2, -⟩ | h
  · subst h2; exact Reads.none_.keep fun _ _ => rfl
  · exact OC.rd h
theorem OwI.rd {w : World} {base c : Nat} {A : Option Addr} {l : List Int} (h : OwI w base A l.length c l) : RdI w w.heap.size A l := by
  rcases h with ⟨h1, h2⟩ | h
  · subst h2; exact Reads.none_.keep fun _ _ => rfl
  · exact OI.rd h
theorem OC.nilc {w : World} {base n c : Nat} {A : Option Addr} {l : List Cd} (h : OC w base A n c l) (e : A = none) : c = 0 := by
  subst e
  rcases h.2 with ⟨hv, _⟩ | ⟨g, cap, cur, hv, _⟩
  · injection hv with _ _ h3
  · injection hv with h1
    cases h1
theorem OwC.nilc {w : World} {base n c : Nat} {A : Option Addr} {l : List Cd} (h : OwC w base A n c l) (e : A = none) : c = 0 := by
  rcases h with ⟨_, _, h⟩ | h
  · exact h e
  · exact h.nilc e
/-- A new row of numbers is returned. -/
def RetI (w : World) (l : List Int) (e : Ending) (w' : World) : Prop :=
  ∃ A c, e = .returned (.slice A l.length c) ∧ OwI w' w.heap.size A l.length c l ∧ Below w.heap.size w w'
/-- A new row of instructions is returned. -/
def RetC (w : World) (l : List Cd) (e : Ending) (w' : World) : Prop :=
  ∃ A c, e = .returned (.slice A l.length c) ∧ OwC w' w.heap.size A l.length c l ∧ Below w.heap.size w w'
theorem RetI.of {w w' : World} {l : List Int} {A : Option Addr} {n c : Nat} (h : OI w' w.heap.size A n c l) (hb : Below w.heap.size w w') : RetI w l (.returned (.slice A n c)) w' := by
  obtain rfl := OI.len h
  exact ⟨A, c, rfl, .inr h, hb⟩
theorem RetC.of {w w' : World} {l : List Cd} {A : Option Addr} {n c : Nat} (h : OC w' w.heap.size A n c l) (hb : Below w.heap.size w w') : RetC w l (.returned (.slice A n c)) w' := by
  obtain rfl := OC.len h
  exact ⟨A, c, rfl, .inr h, hb⟩
theorem RetC.mono {w w0 w' : World} {l : List Cd} {e : Ending} (h : RetC w0 l e w') (hb : Below w.heap.size w w0) : RetC w l e w' := by
  obtain ⟨A, c, he, ho, hb2⟩ := h
  exact ⟨A, c, he, ho.imp id (fun h => OR.mono h hb.size), below_trans hb (Nat.le_refl _) hb2⟩
theorem RetI.mono {w w0 w' : World} {l : List Int} {e : Ending} (h : RetI w0 l e w') (hb : Below w.heap.size w w0) : RetI w l e w' := by
  obtain ⟨A, c, he, ho, hb2⟩ := h
  exact ⟨A, c, he, ho.imp id (fun h => OR.mono h hb.size), below_trans hb (Nat.le_refl _) hb2⟩

/-- The four cells of an instruction, in a new block. -/
theorem cd_cells (w : World) (x : Cd) (t : TypeId) :
    (w.alloc (.cells #[.int .i64 x.op, .int .i64 x.a, .int .i64 x.b, .int .i64 x.c] t)).cell? ⟨w.heap.size, 0, none⟩ = some (.int .i64 x.op) ∧
    (w.alloc (.cells #[.int .i64 x.op, .int .i64 x.a, .int .i64 x.b, .int .i64 x.c] t)).cell? ⟨w.heap.size, 1, none⟩ = some (.int .i64 x.a) ∧
    (w.alloc (.cells #[.int .i64 x.op, .int .i64 x.a, .int .i64 x.b, .int .i64 x.c] t)).cell? ⟨w.heap.size, 2, none⟩ = some (.int .i64 x.b) ∧
    (w.alloc (.cells #[.int .i64 x.op, .int .i64 x.a, .int .i64 x.b, .int .i64 x.c] t)).cell? ⟨w.heap.size, 3, none⟩ = some (.int .i64 x.c) := by
  refine ⟨?_, ?_, ?_, ?_⟩ <;> simp [go_sem]

theorem OI.at0 {w : World} {base g n c : Nat} {r : List Int} (h : OI w base (some ⟨g, 0, none⟩) n c r) :
    (∀ j x, r[j]? = some x → w.cell? ⟨g, j, none⟩ = some (.int .i64 x)) ∧ (∀ j, w.frozen? ⟨g, j, none⟩ = false) ∧ (∀ j x, OI (w.setCell ⟨g, j, none⟩ (.int .i64 x)) base (some ⟨g, 0, none⟩) n c (r.set j x)) := by
  have h0 := OR.at0 h
  refine ⟨fun j x hx => h0.1 j _ (by rw [List.getElem?_map, hx]; rfl), h0.2.1, fun j x => ?_⟩
  have := h0.2.2 j (.int .i64 x)
  unfold OI
  rwa [← List.map_set] at this

theorem type_ne {w : World} {a b : Nat} {ca cb : Array Value} {s t : TypeId} (ha : w.heap[a]? = some (.cells ca s (0, 0))) (hb : w.heap[b]? = some (.cells cb t (0, 0))) (h : s ≠ t) : a ≠ b := by
  intro e
  subst e
  rw [ha] at hb
  injection hb with hb
  injection hb with _ hb
  exact h hb

theorem own_ne {w : World} {e size n c : Nat} {A : Option Addr} {xs : List Value} {base b : Nat} {cb : Array Value} {t : TypeId} (h : OR w base e size A n c xs) (hb : w.heap[b]? = some (.cells cb t (0, 0))) (hne : e ≠ t) : Value.ownBlock (.slice A n c) ≠ some b := by
  intro hk
  rcases h.2 with ⟨hv, _⟩ | ⟨g, cap, cur, hv, _, hg, _⟩
  · rw [hv] at hk; simp [Value.ownBlock] at hk
  · rw [hv] at hk
    simp [Value.ownBlock] at hk
    subst hk
    exact type_ne hg hb hne rfl

section
variable {P : Program} {ops rest : List Oper} {o : Oper} {Q : Exit → Act → World → Prop} {a : Act} {w : World}
theorem wp_store_row {K : Act → World → Prop} (ty : TypeId) (p x : Operand) (ho : o.op = .store ty p x) (b : Nat) (hp : a.eval p = .pointer (some ⟨b, 0, none⟩)) (cs old : Array Value) (t : TypeId)
    (hx : a.eval x = .agg cs) (hh : w.heap[b]? = some (.cells old t (0, 0))) (hi : (P.info? ty).map (·.size) = some cs.size) (hs : old.size = cs.size) (h1 : cs.all (·.oneCell') = true)
    (hK : K (a.put o.dst undef) (w.setRow b cs)) : Oper.wp P o a w K Q := by
  have hrun := run_storeVar_row (P := P) w b t ty old cs hh hi hs h1
  unfold Oper.wp
  simp [execOp, ho, Instr.storeAt, Instr.sureAddr, hp, hx, hrun, Result.andThen]
  exact hK
theorem wpList_load_row {opa : Array Oper} (hg : o.guard = none) (ty : TypeId) (p : Operand) (ho : o.op = .load ty p) (b : Nat) (hp : a.eval p = .pointer (some ⟨b, 0, none⟩)) (cs : Array Value) (t : TypeId) (fr : Nat × Nat)
    (hh : w.heap[b]? = some (.cells cs t fr)) (d : TypeDesc) (hu : P.underlying ty = some d) (hd : (match d with | .struct _ | .array _ _ => true | _ => false) = true) (hi : (P.info? ty).map (·.size) = some cs.size)
    (hK : wpList P opa Q rest (a.put o.dst (.agg cs)) w) : wpList P opa Q (o :: rest) a w := by
  refine wpList_step fun K hk => ?_
  rw [if_pos (by simp [Region.wanted, hg])]
  have hrun := run_loadVar_row (P := P) w b t ty cs fr d hh hu hd hi
  unfold Oper.wp
  simp [execOp, ho, Instr.loadAt, Instr.sureAddr, hp, hrun, Result.andThen]
  exact hk _ _ hK
theorem wpList_store_row {opa : Array Oper} (hg : o.guard = none) (ty : TypeId) (p x : Operand) (ho : o.op = .store ty p x) (b : Nat) (hp : a.eval p = .pointer (some ⟨b, 0, none⟩)) (cs old : Array Value) (t : TypeId)
    (hx : a.eval x = .agg cs) (hh : w.heap[b]? = some (.cells old t (0, 0))) (hi : (P.info? ty).map (·.size) = some cs.size) (hs : old.size = cs.size) (h1 : cs.all (·.oneCell') = true)
    (hK : wpList P opa Q rest (a.put o.dst undef) (w.setRow b cs)) : wpList P opa Q (o :: rest) a w := by
  refine wpList_step fun K hk => ?_
  rw [if_pos (by simp [Region.wanted, hg])]
  have hrun := run_storeVar_row (P := P) w b t ty old cs hh hi hs h1
  unfold Oper.wp
  simp [execOp, ho, Instr.storeAt, Instr.sureAddr, hp, hx, hrun, Result.andThen]
  exact hk _ _ hK
theorem heap_setRow_same {b : Nat} {cs old : Array Value} {t : TypeId} (hh : w.heap[b]? = some (.cells old t (0, 0))) : (w.setRow b cs).heap[b]? = some (.cells cs t (0, 0)) := by
  simp [World.setRow, Array.getElem?_modify, hh]
theorem heap_setRow_other {b j : Nat} {cs : Array Value} (hne : j ≠ b) : (w.setRow b cs).heap[j]? = w.heap[j]? := by
  have : ¬ b = j := fun e => hne e.symm
  simp [World.setRow, Array.getElem?_modify, this]
theorem size_setRow (b : Nat) (cs : Array Value) : (w.setRow b cs).heap.size = w.heap.size := by simp [World.setRow]
theorem grown_cell1 (w : World) (b i : Nat) (v : Value) : w.grownBy (w.setCell ⟨b, i, none⟩ v) (some b) :=
  ⟨rfl, rfl, rfl, by rw [size_set]; exact Nat.le_refl _, fun k hk hne => heap_set_other (fun e => hne (by rw [e])) i v⟩
theorem grown_setRow (b : Nat) (cs : Array Value) : w.grownBy (w.setRow b cs) (some b) :=
  ⟨rfl, rfl, rfl, by rw [size_setRow]; exact Nat.le_refl _, fun k hk hne => heap_setRow_other (fun e => hne (by rw [e]))⟩
theorem grown_then {a b c : World} {row : Option Nat} {k : Nat} (h : a.grownBy b row) (h2 : b.grownBy c (some k)) (hk : a.heap.size ≤ k) : a.grownBy c row :=
  ⟨h2.os.trans h.os, h2.tape.trans h.tape, h2.output.trans h.output, Nat.le_trans h.size h2.size, fun j hj hn => (h2.block j (by have := h.size; omega) (fun e => by cases e; omega)).trans (h.block j hj hn)⟩
/-- A function's end: the result, a struct, is copied out of its variable. -/
theorem fin_row {opa : Array Oper} {o1 o2 : Oper} (ty : TypeId) (p1 p2 x : Operand) (ho1 : o1.op = .load ty p1) (ho2 : o2.op = .store ty p2 x) (g1 : o1.guard = none) (g2 : o2.guard = none)
    (b r : Nat) (cs old : Array Value) (t t2 : TypeId) (hh : w.heap[b]? = some (.cells cs t (0, 0))) (hr : w.heap[r]? = some (.cells old t2 (0, 0))) (hp1 : a.eval p1 = .pointer (some ⟨b, 0, none⟩)) (hp2 : (a.put o1.dst (.agg cs)).eval p2 = .pointer (some ⟨r, 0, none⟩))
    (hx : (a.put o1.dst (.agg cs)).eval x = .agg cs) (d : TypeDesc) (hu : P.underlying ty = some d) (hd : (match d with | .struct _ | .array _ _ => true | _ => false) = true) (hi : (P.info? ty).map (·.size) = some cs.size)
    (hs : old.size = cs.size) (h1 : cs.all (·.oneCell') = true) (hK : Q .normal ((a.put o1.dst (.agg cs)).put o2.dst undef) (w.setRow r cs)) : wpList P opa Q [o1, o2] a w :=
  wpList_load_row g1 ty p1 ho1 b hp1 cs t (0, 0) hh d hu hd hi (wpList_store_row g2 ty p2 x ho2 r hp2 cs old t2 hx hr hi hs h1 (wpList_nil hK))
theorem ret_cell {fn : Func} {R : Ending → World → Prop} {t : Tmp} {ty : TypeId} (h : fn.results = #[.cell t ty]) (b : Nat) (ht : a.tmps.getD t undef = .pointer (some ⟨b, 0, none⟩)) (cs : Array Value) (tt : TypeId) (fr : Nat × Nat)
    (hh : w.heap[b]? = some (.cells cs tt fr)) (d : TypeDesc) (hu : P.underlying ty = some d) (hd : (match d with | .struct _ | .array _ _ => true | _ => false) = true) (hi : (P.info? ty).map (·.size) = some cs.size)
    (hf : a.defers = []) (hR : R (.returned (.agg cs)) w) : bodyPost P fn R .ret a w := by
  have hrun := run_loadVar_row (P := P) w b tt ty cs fr d hh hu hd hi
  refine bodyPost_ret ?_ hf hR
  have ht2 : a.tmps[t]?.getD undef = .pointer (some ⟨b, 0, none⟩) := by simpa using ht
  simp [results, h, ht2, asAddr, hrun, Result.andThen]
end

section
variable {w : World} {ops : Array Oper} {rest : List Oper} {o : Oper} {a : Act} {Q : Exit → Act → World → Prop}
set_option maxRecDepth 100000 in
/-- append of elements that lie in a slice that is read. -/
theorem app_rd (t e : TypeId) (z : Value) (size bytes : Nat) (ht : Tryz.prog.underlying t = some (.slice e)) (hinfo : (Tryz.prog.info? e).map (fun i => (i.zero, i.size, i.bytes)) = some (some z, size, bytes)) (hzs : z.cells.size = size) (hsz : 0 < size) (hby : bytes ≤ 64)
    (hgd : o.guard = none) (s x : Operand) (ho : o.op = .call { callee := .builtin .append, args := #[s, x], argTypes := #[t, t] })
    (base : Nat) (A : Option Addr) (n c : Nat) (xs : List Value) (hown : OR w base e size A n c xs) (hs : a.eval s = .slice A n c)
    (B : Nat) (ad : Addr) (m cc : Nat) (news : List Value) (hx : a.eval x = .slice (some ad) m cc) (hrd : Reads w B size (some ad) m news)
    (h1 : ∀ u ∈ news, u.oneCell' = true) (hn : n + m ≤ 1000000000000) (hbase : base ≤ w.heap.size)
    (hK : ∀ A' c' w', OR w' base e size A' (n + m) c' (xs ++ news) → w.grownBy w' (Value.ownBlock (.slice A n c)) → wpList Tryz.prog ops Q rest (a.put o.dst (.slice A' (n + m) c')) w') :
    wpList Tryz.prog ops Q (o :: rest) a w := by
  obtain ⟨i0, hi, hz0, hz1, hz2⟩ := info_parts hinfo
  have hb : (n + m) * bytes ≤ 140737488355328 := Nat.le_trans (Nat.mul_le_mul_left _ hby) (by omega)
  refine wpList_append_own _ hgd s x t ho base e i0 z size bytes ht hi hz0 hz1 hz2 hzs hsz _ _ _ hs hown ad m cc news hx hrd.1 ?_ h1 (by unfold maxLen; omega) hb hbase ?_
  · intro j u hu
    rcases Nat.eq_zero_or_pos m with h0 | h0
    · subst h0
      have := hrd.1
      rw [Nat.zero_mul] at this
      rw [List.eq_nil_of_length_eq_zero this] at hu
      simp at hu
    · obtain ⟨b, off, e1, _, hc⟩ := hrd.2 h0
      injection e1 with e1
      subst e1
      rw [add_lit]
      exact hc j u hu
  · intro v' w' hown' hgrow _
    obtain ⟨A', c', rfl, h'⟩ := OR.slice_ hown'
    exact hK A' c' w' h' hgrow
end

theorem ints_one (l : List Int) : ∀ u ∈ l.map (Value.int .i64), u.oneCell' = true := by
  intro u hu
  obtain ⟨x, _, rfl⟩ := List.mem_map.1 hu
  rfl
theorem cds_one (l : List Cd) : ∀ u ∈ cdsCells l, u.oneCell' = true := by
  intro u hu
  simp only [cdsCells, List.mem_flatMap] at hu
  obtain ⟨x, _, hu⟩ := hu
  simp [cdCells] at hu
  rcases hu with rfl | rfl | rfl | rfl <;> rfl

set_option maxRecDepth 100000 in
set_option maxHeartbeats 1000000 in
theorem cloneI_c (A : Option Addr) (c : Nat) (l : List Int) (w : World) (hA : RdI w w.heap.size A l) (hl : l.length ≤ 1000000000) (hc : A = none → c = 0) :
    Calls Tryz.prog 40 #[.slice A l.length c] w (fun e w' => ∃ A' c', e = .returned (.slice A' l.length c') ∧ OI w' w.heap.size A' l.length c' l ∧ Below w.heap.size w w') := by
  cases A with
  | none =>
    have hl0 : l = [] := by
      rcases Nat.eq_zero_or_pos l.length with h | h
      · exact List.eq_nil_of_length_eq_zero h
      · obtain ⟨b, off, e, _⟩ := hA.2 (by omega); cases e
    subst hl0
    obtain rfl := hc rfl
    have k1 := fun w' : World => Lib.run_eql_slice_nil (P := Tryz.prog) w' 24 3 none 0 0 0 0 Tryz.underlying24
    go_enter Tryz.func40, Tryz.ntmps40
    go_wp2
    go_ret
    exact ⟨none, 0, rfl, OI.nil_ _ _, (by repeat (first | exact Below.refl _ _ | assumption | refine Below.alloc ?_ (by simp <;> omega) _ | refine Below.setCell ?_ (by simp <;> omega) _ | refine Below.drew ?_))⟩
  | some ad =>
    have k1 := fun w' : World => Lib.run_eql_slice_nil (P := Tryz.prog) w' 24 3 (some ad) l.length c 0 0 Tryz.underlying24
    have ho := Lib.hid (OI.empty_ w w.heap.size (Nat.le_refl _))
    have hA2 := Lib.hid (hA.below ((Below.refl w.heap.size w).alloc (Nat.le_refl _) (.cells #[] 3)))
    go_enter Tryz.func40, Tryz.ntmps40
    go_wp2_with (at_builtin; refine app_rd 24 3 _ 1 8 Tryz.underlying24 infoInt rfl (by decide) (by decide) rfl _ _ rfl w.heap.size _ 0 0 _ ho.out rfl w.heap.size ad l.length c _ rfl hA2.out (ints_one l) ?hn ?hb ?_)
    case hn => omega
    case hb => simp
    intro A' c' w2 ho2 hg2
    clear k1
    go_wp2
    go_ret
    refine ⟨A', c', by simp, ?_, ?_⟩
    · exact ho2
    · exact ((Below.refl w.heap.size w).alloc (Nat.le_refl _) _).grown hg2 (by simp) (fun k hk => by simp [Value.ownBlock] at hk; omega)

/-- A new row of instructions and a bool are returned. -/
def RetCb (w : World) (l : List Cd) (b : Bool) (e : Ending) (w' : World) : Prop :=
  ∃ A c, e = .returned (.tuple #[.slice A l.length c, .bool b]) ∧ OC w' w.heap.size A l.length c l ∧ Below w.heap.size w w'
theorem RetCb.of {w w' : World} {l : List Cd} {b : Bool} {A : Option Addr} {n c : Nat} (h : OC w' w.heap.size A n c l) (hb : Below w.heap.size w w') : RetCb w l b (.returned (.tuple #[.slice A n c, .bool b])) w' := by
  obtain rfl := OC.len h
  exact ⟨A, c, rfl, h, hb⟩
theorem below_gr {B base e size n c : Nat} {A : Option Addr} {xs : List Value} {w0 w1 w2 : World} (hb : Below B w0 w1) (hB : B ≤ w1.heap.size) (ho : OR w1 base e size A n c xs) (hbase : B ≤ base)
    (hg : w1.grownBy w2 (Value.ownBlock (.slice A n c))) : Below B w0 w2 :=
  hb.grown hg hB (fun k h => Nat.le_trans hbase (ho.block k h).1)
theorem nilC {w : World} {B : Nat} {A : Option Addr} {l : List Cd} (h : RdC w B A l) (e : A = none) : l.length = 0 := by
  subst e
  rcases Nat.eq_zero_or_pos l.length with h0 | h0
  · exact h0
  · obtain ⟨b, off, e, _⟩ := h.2 h0
    cases e
/-- A part of a slice that is read. -/
theorem RdC.sub {w : World} {B b off : Nat} {l : List Cd} (h : RdC w B (some ⟨b, off, none⟩) l) (i n : Nat) (hn : i + n ≤ l.length) : RdC w B (some ⟨b, off + i * 4, none⟩) ((l.drop i).take n) := by
  refine ⟨by rw [cdsCells_length], fun hp => ?_⟩
  have hlen : ((l.drop i).take n).length = n := by simp; omega
  have hl0 : 0 < l.length := by omega
  obtain ⟨b', off', e, hb, hc⟩ := h.2 hl0
  injection e with e
  injection e with e1 e2
  subst e1 e2
  refine ⟨b, off + i * 4, rfl, hb, fun j u hu => ?_⟩
  have hj : j < n * 4 := by
    have := (List.getElem?_eq_some_iff.1 hu).1
    rw [cdsCells_length, hlen] at this
    exact this
  have hk : j / 4 < n := by omega
  have hx : l[i + j / 4]? = some (l[i + j / 4]'(by omega)) := List.getElem?_eq_getElem (by omega)
  have hx2 : ((l.drop i).take n)[j / 4]? = some (l[i + j / 4]'(by omega)) := by
    rw [List.getElem?_take, if_pos hk, List.getElem?_drop, hx]
  have q1 := cdsCells_get _ _ _ hx (j % 4) (Nat.mod_lt _ (by decide))
  have q2 := cdsCells_get _ _ _ hx2 (j % 4) (Nat.mod_lt _ (by decide))
  rw [show j / 4 * 4 + j % 4 = j by omega] at q2
  rw [q2, ← q1] at hu
  have := hc _ u hu
  rw [show off + i * 4 + j = off + ((i + j / 4) * 4 + j % 4) by omega]
  exact this
theorem cdAt_get' {l : List Cd} {k : Nat} (h : k < l.length) : l[k]? = some (cdAt l k) := by
  unfold cdAt
  rw [List.getElem?_eq_getElem h]

section
variable {w : World} {ops : Array Oper} {rest : List Oper} {o : Oper} {a : Act} {Q : Exit → Act → World → Prop}
set_option maxRecDepth 100000 in
/-- append of a slice of instructions that is read. -/
theorem app_cs (hgd : o.guard = none) (s x : Operand) (ho : o.op = .call { callee := .builtin .append, args := #[s, x], argTypes := #[23, 23] })
    (base : Nat) (A : Option Addr) (n c : Nat) (xs : List Cd) (hown : OC w base A n c xs) (hs : a.eval s = .slice A n c)
    (B : Nat) (A2 : Option Addr) (m cc : Nat) (news : List Cd) (hx : a.eval x = .slice A2 m cc) (hm : news.length = m) (hc : A2 = none → cc = 0) (hrd : RdC w B A2 news)
    (hn : n + m ≤ 1000000000000) (hbase : base ≤ w.heap.size)
    (hK : ∀ A' c' w', OC w' base A' (n + m) c' (xs ++ news) → w.grownBy w' (Value.ownBlock (.slice A n c)) → wpList Tryz.prog ops Q rest (a.put o.dst (.slice A' (n + m) c')) w') :
    wpList Tryz.prog ops Q (o :: rest) a w := by
  cases A2 with
  | none =>
    obtain rfl := hc rfl
    have h0 := nilC hrd rfl
    obtain rfl : m = 0 := by omega
    obtain rfl : news = [] := List.eq_nil_of_length_eq_zero h0
    obtain ⟨i0, hi, hz0, hz1, hz2⟩ := info_parts infoCode
    refine wpList_append_own_none hgd s x 23 ho base 76 i0 4 Tryz.underlying23 hi _ _ _ hs hown hx ?_
    exact hK A c w (by simpa using hown) (grown_refl _ _)
  | some ad =>
    subst hm
    refine app_rd 23 76 _ 4 32 Tryz.underlying23 infoCode rfl (by decide) (by decide) hgd s x ho base A n c _ hown hs B ad news.length cc _ hx hrd (cds_one news) hn hbase ?_
    intro A' c' w' h hg
    exact hK A' c' w' (by unfold OC; rw [cdsCells_append]; exact h) hg
end


theorem l4Opens_c (x : Cd) (w : World) :
    Calls Tryz.prog 125 #[x.val] w fun e w' => e = .returned (.bool (opB x)) ∧ Below w.heap.size w w' := by
  obtain ⟨o, a, b, c⟩ := x
  unfold Cd.val
  go_enter Tryz.func125, Tryz.ntmps125
  go_wp2
  all_goals go_ret
  all_goals refine ⟨retb ?_, (by repeat (first | exact Below.refl _ _ | assumption | refine Below.alloc ?_ (by simp <;> omega) _ | refine Below.setCell ?_ (by simp <;> omega) _ | refine Below.drew ?_))⟩
  all_goals (simp_all [opB])

theorem scanE_step {l : List Cd} {k : Nat} {x : Cd} (hx : l[k]? = some x) (d : Nat) (o : Int) : scanE (l.drop k) k d o =
    if opB x then scanE (l.drop (k + 1)) (k + 1) (d + 1) o
    else if x.op == 12 && d == 0 then scanE (l.drop (k + 1)) (k + 1) d k
    else if x.op == 14 && d == 0 then ((k : Int), o)
    else if x.op == 14 then scanE (l.drop (k + 1)) (k + 1) (d - 1) o
    else scanE (l.drop (k + 1)) (k + 1) d o := by
  rw [drop_get hx, scanE]

def E4Rel (w : World) (l : List Cd) (n : Nat) (kv dv ov : Value) (wr : World) : Prop :=
  ∃ (k d : Nat) (o : Int), k ≤ l.length ∧ kv = .int .i64 k ∧ dv = .int .i64 d ∧ ov = .int .i64 o ∧ d ≤ k ∧ Hid (endOf l n = scanE (l.drop k) k d o) ∧ Below w.heap.size w wr

set_option maxRecDepth 100000 in
set_option maxHeartbeats 4000000 in
theorem l4End_c (A : Option Addr) (c : Nat) (l : List Cd) (n : Nat) (w : World) (hA : RdC w w.heap.size A l) (hl : l.length ≤ 1000000000) (hn : n < l.length) :
    Calls Tryz.prog 100 #[.slice A l.length c, .int .i64 n] w fun e w' => e = .returned (.tuple #[.int .i64 (endOf l n).1, .int .i64 (endOf l n).2]) ∧ Below w.heap.size w w' := by
  go_enter Tryz.func100, Tryz.ntmps100
  go_wp2
  go_loopw [8, 6, 7] (fun kv dv ov wr => E4Rel w l n kv dv ov wr) (fun kv _ _ _ => l.length - (intOf kv).toNat)
  case atStart => exact ⟨n + 1, 0, -1, by omega, by go_num, rfl, rfl, by omega, rfl, Below.refl _ _⟩
  case round =>
    obtain ⟨k, d, o, hk, rfl, rfl, rfl, hd, HE, hb⟩ := hrel
    by_cases hlt : k < l.length
    · obtain ⟨b, off, x, rfl, hbB, hx, c0, c1, c2, c3⟩ := (hA.below hb).at_ hlt
      have HS := Lib.hid (scanE_step hx d o)
      have HX := Lib.hid hx
      clear hx
      go_wp2_with fail
      refine (l4Opens_c x _).mono ?_
      rintro e w1 ⟨rfl, hb1⟩
      replace c0 := cell_kept hb1 c0
      have hb2 := below_trans hb (Nat.le_refl _) hb1
      clear c1 c2 c3
      cases hop : opB x with
      | true =>
        have HO := Lib.hid hop
        clear hop
        go_wp2
        go_roundw
        case rel => exact ⟨k + 1, d + 1, o, by omega, by go_num, by go_num, rfl, by omega, Lib.hid (by rw [HE.out, HS.out, HO.out]; rfl), hb2⟩
        case measure => simp [intOf]; omega
      | false =>
        have HO := Lib.hid hop
        clear hop
        cases e12 : x.op == 12 with
        | true =>
          have h12 : x.op = 12 := beq_iff_eq.1 e12
          have e14 : (x.op == 14) = false := by rw [h12]; rfl
          have H12 := Lib.hid e12
          have H14 := Lib.hid e14
          clear h12
          by_cases hd0 : d = 0
          · subst hd0
            go_wp2
            go_roundw
            case rel => exact ⟨k + 1, 0, k, by omega, by go_num, rfl, rfl, by omega, Lib.hid (by rw [HE.out, HS.out, HO.out, H12.out]; rfl), hb2⟩
            case measure => simp [intOf]; omega
          · have ed : ((d : Int) == 0) = false := by rw [beq_eq_false_iff_ne]; omega
            have HD := Lib.hid (show (d == 0) = false by rw [beq_eq_false_iff_ne]; exact hd0)
            go_wp2
            go_roundw
            case rel => exact ⟨k + 1, d, o, by omega, by go_num, rfl, rfl, by omega, Lib.hid (by rw [HE.out, HS.out, HO.out, H12.out, HD.out, H14.out]; rfl), hb2⟩
            case measure => simp [intOf]; omega
        | false =>
          have H12 := Lib.hid e12
          cases e14 : x.op == 14 with
          | true =>
            have H14 := Lib.hid e14
            by_cases hd0 : d = 0
            · subst hd0
              go_wp2
              go_ret2
              have hf : endOf l n = ((k : Int), o) := by rw [HE.out, HS.out, HO.out, H12.out, H14.out]; rfl
              rw [hf]
              exact ⟨rfl, hb2⟩
            · have ed : ((d : Int) == 0) = false := by rw [beq_eq_false_iff_ne]; omega
              have HD := Lib.hid (show (d == 0) = false by rw [beq_eq_false_iff_ne]; exact hd0)
              go_wp2
              go_roundw
              case rel => exact ⟨k + 1, d - 1, o, by omega, by go_num, by (congr 1; first | done | omega), rfl, by omega, Lib.hid (by rw [HE.out, HS.out, HO.out, H12.out, H14.out, HD.out]; rfl), hb2⟩
              case measure => simp [intOf]; omega
          | false =>
            have H14 := Lib.hid e14
            go_wp2
            go_roundw
            case rel => exact ⟨k + 1, d, o, by omega, by go_num, rfl, rfl, by omega, Lib.hid (by rw [HE.out, HS.out, HO.out, H12.out, H14.out]; rfl), hb2⟩
            case measure => simp [intOf]; omega
    · obtain rfl : k = l.length := by omega
      go_wp2
      go_ret2
      have hf : endOf l n = (-1, o) := by rw [HE.out, List.drop_length]; rfl
      rw [hf]
      exact ⟨rfl, hb⟩

def A4Rel (w : World) (l : List Cd) (n : Nat) (kv dv : Value) (wr : World) : Prop :=
  ∃ (k d : Nat), k ≤ n ∧ kv = .int .i64 ((k : Int) - 1) ∧ dv = .int .i64 d ∧ d + k ≤ n ∧ Hid (aroundOf l n = scanA l k d) ∧ Below w.heap.size w wr

set_option maxRecDepth 100000 in
set_option maxHeartbeats 4000000 in
theorem l4Around_c (A : Option Addr) (c : Nat) (l : List Cd) (n : Nat) (w : World) (hA : RdC w w.heap.size A l) (hl : l.length ≤ 1000000000) (hn : n ≤ l.length) :
    Calls Tryz.prog 101 #[.slice A l.length c, .int .i64 n] w fun e w' => e = .returned (.int .i64 (aroundOf l n)) ∧ Below w.heap.size w w' := by
  go_enter Tryz.func101, Tryz.ntmps101
  go_wp2
  go_loopw [6, 5] (fun kv dv wr => A4Rel w l n kv dv wr) (fun kv _ _ => (intOf kv + 1).toNat)
  case atStart => exact ⟨n, 0, Nat.le_refl _, rfl, rfl, by omega, rfl, Below.refl _ _⟩
  case round =>
    obtain ⟨k, d, hk, rfl, rfl, hd, HE, hb⟩ := hrel
    cases k with
    | zero =>
      have h0 : ¬ (0 : Int) ≤ ((0 : Nat) : Int) - 1 := by omega
      go_wp2
      go_ret
      exact ⟨reti (by rw [HE.out]; simp [scanA]), hb⟩
    | succ k =>
      have hlt : k < l.length := by omega
      obtain ⟨b, off, x, rfl, hbB, hx, c0, c1, c2, c3⟩ := (hA.below hb).at_ hlt
      have ek : ((k + 1 : Nat) : Int) - 1 = (k : Int) := by omega
      rw [ek]
      have HS := Lib.hid (scanA_step l k d x hx)
      clear hx ek
      cases e14 : x.op == 14 with
      | true =>
        have hop : opB x = false := by have := beq_iff_eq.1 e14; simp [opB, this]
        have HO := Lib.hid hop
        have H14 := Lib.hid e14
        go_wp2_with fail
        refine (l4Opens_c x _).mono ?_
        rintro e w1 ⟨rfl, hb1⟩
        have hb2 := below_trans hb (Nat.le_refl _) hb1
        clear c0 c1 c2 c3
        go_wp2
        go_roundw
        case rel => exact ⟨k, d + 1, by omega, by go_num, by go_num, by omega, Lib.hid (by rw [HE.out, HS.out, HO.out, H14.out]; rfl), hb2⟩
        case measure => simp [intOf]
      | false =>
        have H14 := Lib.hid e14
        go_wp2_with fail
        refine (l4Opens_c x _).mono ?_
        rintro e w1 ⟨rfl, hb1⟩
        have hb2 := below_trans hb (Nat.le_refl _) hb1
        clear c0 c1 c2 c3
        cases hop : opB x with
        | false =>
          have HO := Lib.hid hop
          clear hop
          go_wp2
          go_roundw
          case rel => exact ⟨k, d, by omega, by go_num, rfl, by omega, Lib.hid (by rw [HE.out, HS.out, HO.out, H14.out]; rfl), hb2⟩
          case measure => simp [intOf]
        | true =>
          have HO := Lib.hid hop
          clear hop
          cases d with
          | zero =>
            go_wp2
            go_ret
            exact ⟨reti (by rw [HE.out, HS.out, HO.out]; rfl), hb2⟩
          | succ d =>
            have ed : (((d + 1 : Nat) : Int) == 0) = false := by rw [beq_eq_false_iff_ne]; omega
            have ed2 : (((d : Int) + 1) == 0) = false := by rw [beq_eq_false_iff_ne]; omega
            go_wp2
            go_roundw
            case rel => exact ⟨k, d, by omega, by go_num, by (congr 1; first | done | omega), by omega, Lib.hid (by rw [HE.out, HS.out, HO.out]; rfl), hb2⟩
            case measure => simp [intOf]


theorem ofInt_nat64 (a : Nat) (h : a < 2 ^ 64) : (BitVec.ofInt 64 (a : Int)).toNat = a := by
  rw [BitVec.toNat_ofInt]
  omega
theorem wrap64_small (n : Int) (h0 : 0 ≤ n) (h1 : n < 9223372036854775808) : IntKind.i64.wrap n = n := by
  simp [IntKind.wrap, IntKind.bits, IntKind.signed]; omega
theorem bits_or64 (a b : Nat) (ha : a < 4611686018427387904) (hb : b < 4611686018427387904) : bits .or .i64 (a : Int) (b : Int) = ((a ||| b : Nat) : Int) := by
  have h : a ||| b < 2 ^ 62 := Nat.or_lt_two_pow (by simpa using ha) (by simpa using hb)
  show IntKind.i64.wrap ((BitVec.ofInt 64 (a : Int) ||| BitVec.ofInt 64 (b : Int)).toNat : Int) = _
  rw [BitVec.toNat_or, ofInt_nat64 a (by omega), ofInt_nat64 b (by omega)]
  exact wrap64_small _ (by omega) (by omega)
theorem bits_and64 (a b : Nat) (ha : a < 4611686018427387904) (hb : b < 4611686018427387904) : bits .and .i64 (a : Int) (b : Int) = ((a &&& b : Nat) : Int) := by
  have h : a &&& b ≤ a := Nat.and_le_left
  show IntKind.i64.wrap ((BitVec.ofInt 64 (a : Int) &&& BitVec.ofInt 64 (b : Int)).toNat : Int) = _
  rw [BitVec.toNat_and, ofInt_nat64 a (by omega), ofInt_nat64 b (by omega)]
  exact wrap64_small _ (by omega) (by omega)
theorem bits_andNot64 (a b : Nat) (ha : a < 4611686018427387904) (hb : b < 4611686018427387904) : bits .andNot .i64 (a : Int) (b : Int) = ((mdiff a b : Nat) : Int) := by
  have h := mdiff_le a b
  have e : (BitVec.ofInt 64 (a : Int) &&& ~~~BitVec.ofInt 64 (b : Int)).toNat = mdiff a b := by
    apply Nat.eq_of_testBit_eq
    intro i
    rw [testBit_mdiff, BitVec.toNat_and, Nat.testBit_and, ofInt_nat64 a (by omega)]
    by_cases hi : i < 64
    · have : (~~~BitVec.ofInt 64 (b : Int)).toNat.testBit i = !b.testBit i := by
        rw [BitVec.testBit_toNat, BitVec.getLsbD_not, ← BitVec.testBit_toNat, ofInt_nat64 b (by omega)]
        simp [hi]
      rw [this]
    · have : a.testBit i = false := Nat.testBit_lt_two_pow (Nat.lt_of_lt_of_le (show a < 2 ^ 64 by omega) (Nat.pow_le_pow_right (by decide) (by omega)))
      simp [this]
  show IntKind.i64.wrap ((BitVec.ofInt 64 (a : Int) &&& ~~~BitVec.ofInt 64 (b : Int)).toNat : Int) = _
  rw [e]
  exact wrap64_small _ (by omega) (by omega)
theorem wrap64_pow (k : Nat) (hk : k ≤ 61) : wrap64 (2 ^ k) = ((2 ^ k : Nat) : Int) := by
  have h : 2 ^ k ≤ 2 ^ 61 := Nat.pow_le_pow_right (by decide) hk
  have e : ((2 : Int) ^ k) = ((2 ^ k : Nat) : Int) := by simp
  obtain ⟨m, hm⟩ : ∃ m, 2 ^ k = m := ⟨_, rfl⟩
  rw [hm] at h e ⊢
  unfold wrap64
  rw [e]
  omega
theorem pow_small (k : Nat) (hk : k ≤ 61) : 2 ^ k < 4611686018427387904 := by
  have h : 2 ^ k ≤ 2 ^ 61 := Nat.pow_le_pow_right (by decide) hk
  omega
/-- 'mask | 1 << k', as the walk has it. -/
theorem or_bit (a k : Nat) (ha : a < 4611686018427387904) (hk : k ≤ 61) : bits .or .i64 (a : Int) (wrap64 (2 ^ k)) = ((a ||| 2 ^ k : Nat) : Int) := by
  rw [wrap64_pow k hk, bits_or64 a _ ha (pow_small k hk)]

theorem shr_cast (u r : Nat) : ((u : Int) / 2 ^ r) = ((u >>> r : Nat) : Int) := by
  rw [Nat.shiftRight_eq_div_pow]
  simp
theorem bit_and (u r : Nat) (hu : u < 65536) : bits .and .i64 ((u : Int) / 2 ^ r) 1 = (((u >>> r) % 2 : Nat) : Int) := by
  have h : u >>> r ≤ u := Nat.shiftRight_le u r
  rw [shr_cast, show (1 : Int) = ((1 : Nat) : Int) from rfl, bits_and64 _ _ (by omega) (by omega), Nat.and_one_is_mod]

theorem sMaskAll_c (n : Int) (w : World) :
    Calls Tryz.prog 35 #[.int .i64 n] w fun e w' => e = .returned (.int .i64 (maskAllI n)) ∧ w = w' := by
  cases h : inR n 1 8 with
  | false =>
    go_enter Tryz.func35, Tryz.ntmps35
    go_wp2_with (go_at_call 33; refine (l1In_c _ _ _ _).mono ?_; rintro e w' ⟨rfl, rfl⟩)
    go_ret
    exact ⟨reti (by simp [maskAllI, h]), rfl⟩
  | true =>
    have h' := inR_iff.1 h
    have h8 : n = 1 ∨ n = 2 ∨ n = 3 ∨ n = 4 ∨ n = 5 ∨ n = 6 ∨ n = 7 ∨ n = 8 := by omega
    clear h h'
    rcases h8 with rfl | rfl | rfl | rfl | rfl | rfl | rfl | rfl
    all_goals
      go_enter Tryz.func35, Tryz.ntmps35
      go_wp2_with (go_at_call 33; refine (l1In_c _ _ _ _).mono ?_; rintro e w' ⟨rfl, rfl⟩)
      go_ret
      exact ⟨reti (by decide), rfl⟩

def MORel (xs : List Int) (n : Int) (mv iv : Value) : Prop :=
  ∃ k : Nat, k ≤ xs.length ∧ iv = .int .i64 k ∧ mv = .int .i64 (orBits (xs.take k)) ∧ allIn (xs.take k) n = true

set_option maxHeartbeats 1000000 in
theorem sMaskOf_c (A : Option Addr) (c : Nat) (xs : List Int) (n : Int) (w : World) (hA : RdI w w.heap.size A xs) (hl : xs.length ≤ 1000000000) :
    Calls Tryz.prog 34 #[.slice A xs.length c, .int .i64 n] w fun e w' => e = .returned (.int .i64 (maskOfI xs n)) ∧ w = w' := by
  cases hn : inR n 1 8 with
  | false =>
    go_enter Tryz.func34, Tryz.ntmps34
    go_wp2_with (go_at_call 33; refine (l1In_c _ _ _ _).mono ?_; rintro e w' ⟨rfl, rfl⟩)
    go_ret
    exact ⟨reti (by simp [maskOfI, hn]), rfl⟩
  | true =>
    have hn' := inR_iff.1 hn
    obtain ⟨n1, n8⟩ := hn'
    go_enter Tryz.func34, Tryz.ntmps34
    go_wp2_with (go_at_call 33; refine (l1In_c _ _ _ _).mono ?_; rintro e w' ⟨rfl, rfl⟩)
    have HN := Lib.hid hn
    clear hn
    go_loop [5, 6] (fun mv iv => MORel xs n mv iv) (fun _ i => xs.length - (intOf i).toNat)
    case atStart => exact ⟨0, Nat.zero_le _, rfl, rfl, rfl⟩
    case round =>
      obtain ⟨k, hk, rfl, rfl, hall⟩ := hrel
      by_cases hlt : k < xs.length
      · obtain ⟨b, off, x, rfl, hb, hx, hc⟩ := hA.at_ hlt
        have hm := orBits_lt n8 hall
        have HA := Lib.hid hall
        have HO := Lib.hid (orBits_take hx)
        have HT := Lib.hid (allIn_take (n := n) hx)
        have HX := Lib.hid hx
        generalize orBits (xs.take k) = m at *
        clear hall hx
        cases hr : inR x 0 (n - 1) with
        | false =>
          have HF := Lib.hid (allIn_bad HX.out hr)
          go_wp2_with (go_at_call 33; refine (l1In_c _ _ _ _).mono ?_; rintro e w' ⟨rfl, rfl⟩)
          go_ret
          exact ⟨reti (by simp [maskOfI, HF.out]), rfl⟩
        | true =>
          obtain ⟨x1, x2⟩ := inR_iff.1 hr
          obtain ⟨y, rfl⟩ := Int.eq_ofNat_of_zero_le x1
          have HR := Lib.hid hr
          have y7 : y ≤ 7 := by omega
          go_wp2_with (go_at_call 33; refine (l1In_c _ _ _ _).mono ?_; rintro e w' ⟨rfl, rfl⟩)
          go_round
          case rel =>
            have ho := HO.out
            rw [Int.toNat_natCast] at ho
            exact ⟨k + 1, by omega, by go_num, by rw [ho, or_bit _ _ (by omega) (by omega)], by rw [HT.out, HA.out, HR.out]; rfl⟩
          case measure => simp [intOf]; omega
      · obtain rfl : k = xs.length := by omega
        rw [List.take_length] at hall ⊢
        have HA := Lib.hid hall
        clear hall
        go_wp2
        go_ret
        exact ⟨reti (by simp [maskOfI, HN.out, HA.out]), rfl⟩


set_option maxRecDepth 100000 in
set_option maxHeartbeats 2000000 in
theorem sCodeValid_c (x : Cd) (w : World) :
    Calls Tryz.prog 67 #[x.val] w fun e w' => e = .returned (.bool (cvOk x)) ∧ Below w.heap.size w w' := by
  obtain ⟨o, a, b, c⟩ := x
  unfold Cd.val
  go_enter Tryz.func67, Tryz.ntmps67
  go_wp2_with (first | (go_at_call 33; refine (l1In_c _ _ _ _).mono ?_; rintro e w' ⟨rfl, rfl⟩) | (go_at_call 68; refine (l2Word_c _ _).mono ?_; rintro e w' ⟨rfl, rfl⟩))
  all_goals go_ret
  all_goals refine ⟨retb ?_, (Below.refl _ _).alloc (Nat.le_refl _) _⟩
  all_goals (unfold cvOk; simp_all; done)

theorem pvRun_take {l : List Cd} {k : Nat} {x : Cd} {st st' : List Int} (hx : l[k]? = some x) (h : pvRun [] (l.take k) = some st) (hs : pvStep st x = some st') : pvRun [] (l.take (k + 1)) = some st' := by
  obtain ⟨hk, rfl⟩ := List.getElem?_eq_some_iff.1 hx
  rw [List.take_succ_eq_append_getElem hk, pvRun_append, h]
  simp [pvRun, hs]
theorem pv_fail {l : List Cd} {k : Nat} {x : Cd} {st : List Int} (hx : l[k]? = some x) (h : pvRun [] (l.take k) = some st) (hs : pvStep st x = none) : pv l = false := by
  obtain ⟨hk, rfl⟩ := List.getElem?_eq_some_iff.1 hx
  have e : pvRun [] l = none := by
    conv => lhs; rw [← List.take_append_drop k l]
    rw [pvRun_append, h, List.drop_eq_getElem_cons hk]
    simp [pvRun, hs]
  simp [pv, e]

theorem step_bad {st : List Int} {x : Cd} (h : cvOk x = false) : pvStep st x = none := by simp [pvStep, h]
theorem step_open {st : List Int} {x : Cd} (h : cvOk x = true) (ho : x.op = 11 ∨ x.op = 13) : pvStep st x = if st.length < 3 then some (x.op :: st) else none := by
  rcases ho with ho | ho <;> simp [pvStep, h, ho]
theorem step_else {m : Int} {t : List Int} {x : Cd} (h : cvOk x = true) (ho : x.op = 12) : pvStep (m :: t) x = if m = 11 then some (12 :: t) else none := by
  simp [pvStep, h, ho]
theorem step_else0 {x : Cd} (h : cvOk x = true) (ho : x.op = 12) : pvStep [] x = none := by simp [pvStep, h, ho]
theorem step_end {m : Int} {t : List Int} {x : Cd} (h : cvOk x = true) (ho : x.op = 14) : pvStep (m :: t) x = some t := by simp [pvStep, h, ho]
theorem step_end0 {x : Cd} (h : cvOk x = true) (ho : x.op = 14) : pvStep [] x = none := by simp [pvStep, h, ho]
theorem step_same {st : List Int} {x : Cd} (h : cvOk x = true) (h1 : x.op ≠ 11) (h2 : x.op ≠ 13) (h3 : x.op ≠ 12) (h4 : x.op ≠ 14) : pvStep st x = some st := by simp [pvStep, h, h1, h2, h3, h4]

/-- The relation of the loop. -/
def SVRel (w : World) (l : List Cd) (op i : Value) (wr : World) : Prop :=
  ∃ (k : Nat) (A : Option Addr) (st : List Int) (c : Nat), k ≤ l.length ∧ i = .int .i64 k ∧ op = .slice A st.length c ∧ OI wr w.heap.size A st.length c st.reverse ∧
    Hid (pvRun [] (l.take k) = some st) ∧ st.length ≤ 3 ∧ Below w.heap.size w wr

set_option maxRecDepth 100000 in
set_option maxHeartbeats 2000000 in
theorem sProgramValid_c (A : Option Addr) (c : Nat) (l : List Cd) (w : World) (hA : RdC w w.heap.size A l) (hl : l.length ≤ 1000000000) :
    Calls Tryz.prog 36 #[.slice A l.length c] w fun e w' => e = .returned (.bool (pv l)) ∧ Below w.heap.size w w' := by
  go_enter Tryz.func36, Tryz.ntmps36
  go_wp2
  go_loopw [3, 4] (fun op i wr => SVRel w l op i wr) (fun _ i _ => l.length - (intOf i).toNat)
  case atStart => exact ⟨0, _, [], 0, Nat.zero_le _, rfl, rfl, OR.lit w _ _ 1 0 #[] (Nat.le_refl _) (by omega) rfl, rfl, by simp, (by repeat (first | exact Below.refl _ _ | assumption | refine Below.alloc ?_ (by simp <;> omega) _ | refine Below.setCell ?_ (by simp <;> omega) _ | refine Below.drew ?_))⟩
  case round =>
    obtain ⟨k, A1, st, c1, hk, rfl, rfl, ho, HP, hs3, hb⟩ := hrel
    by_cases hlt : k < l.length
    · obtain ⟨b, off, x, rfl, hbB, hx, c0, c1', c2, c3⟩ := (hA.below hb).at_ hlt
      have HX := Lib.hid hx
      clear hx
      go_wp2_with fail
      refine (sCodeValid_c x _).mono ?_
      rintro e w1 ⟨rfl, hb1⟩
      have hb2 := below_trans hb (Nat.le_refl _) hb1
      have ho1 := ho.below hb1 (Nat.le_refl _)
      replace c0 := cell_kept hb1 c0
      clear c1' c2 c3
      cases hv : cvOk x with
      | false =>
        go_wp2
        go_ret
        exact ⟨retb (pv_fail HX.out HP.out (step_bad hv)).symm, hb2⟩
      | true =>
        by_cases h11 : x.op = 11 ∨ x.op = 13
        · have hstep := step_open (st := st) hv h11
          by_cases h3 : st.length < 3
          · rw [if_pos h3] at hstep
            have HS := Lib.hid hstep
            clear hstep
            rcases h11 with h | h
            all_goals
              first | have e11 : (x.op == 11) = true := by simp [h] | have e11 : (x.op == 11) = false := by simp [h]
              first | have e13 : (x.op == 13) = true := by simp [h] | have e13 : (x.op == 13) = false := by simp [h]
              have h4 : ¬ 3 < st.length + 1 := by omega
              clear h
              go_wp2_with (at_builtin; refine app_int rfl _ _ rfl w.heap.size _ _ _ _ (ho1.alloc _) rfl x.op w1.heap.size 1 rfl ?hc ?hn ?hbase ?_)
              case hc => simp
              case hn => omega
              case hbase => have := hb2.size; simp; omega
              intro A' c' w2 ho2 hg2
              go_wp2
              go_roundw
              case rel => exact ⟨k + 1, A', x.op :: st, c', by omega, by go_num, rfl, by simpa using ho2, Lib.hid (pvRun_take HX.out HP.out HS.out), by simp; omega, below_app hb2 (Nat.le_trans hb.size hb1.size) ho1 (Nat.le_refl _) hg2⟩
              case measure => simp [intOf]; omega
          · rw [if_neg h3] at hstep
            have HS := Lib.hid hstep
            clear hstep
            rcases h11 with h | h
            all_goals
              first | have e11 : (x.op == 11) = true := by simp [h] | have e11 : (x.op == 11) = false := by simp [h]
              first | have e13 : (x.op == 13) = true := by simp [h] | have e13 : (x.op == 13) = false := by simp [h]
              have h4 : 3 < st.length + 1 := by omega
              clear h
              go_wp2_with (at_builtin; refine app_int rfl _ _ rfl w.heap.size _ _ _ _ (ho1.alloc _) rfl x.op w1.heap.size 1 rfl ?hc ?hn ?hbase ?_)
              case hc => simp
              case hn => omega
              case hbase => have := hb2.size; simp; omega
              intro A' c' w2 ho2 hg2
              go_wp2
              go_ret
              exact ⟨retb (pv_fail HX.out HP.out HS.out).symm, below_app hb2 (Nat.le_trans hb.size hb1.size) ho1 (Nat.le_refl _) hg2⟩
        · have n11 : x.op ≠ 11 := fun h => h11 (.inl h)
          have n13 : x.op ≠ 13 := fun h => h11 (.inr h)
          have e11 : (x.op == 11) = false := beq_eq_false_iff_ne.2 n11
          have e13 : (x.op == 13) = false := beq_eq_false_iff_ne.2 n13
          clear h11
          by_cases h12 : x.op = 12
          · have e12 : (x.op == 12) = true := beq_iff_eq.2 h12
            cases st with
            | nil =>
              have HS := Lib.hid (step_else0 hv h12)
              clear h12 n11 n13
              go_wp2
              go_ret
              exact ⟨retb (pv_fail HX.out HP.out HS.out).symm, hb2⟩
            | cons m st =>
              have hstep := step_else (m := m) (t := st) hv h12
              obtain ⟨g, rfl, hg1, hg2, hcell, hfr, hset⟩ := ho1.at_ (by simp)
              have hm := hcell st.length (.int .i64 m) (by simp)
              have hf := hfr st.length
              have hs := hset st.length (.int .i64 12)
              have HL := Lib.hid hcell
              clear hcell hfr hset h12 n11 n13
              by_cases hm11 : m = 11
              · rw [if_pos hm11] at hstep
                have HS := Lib.hid hstep
                have em : (m != 11) = false := by simp [hm11]
                clear hstep hm11
                have h4 : ¬ 3 < st.length + 1 := by simp at hs3; omega
                go_wp2
                go_roundw
                case rel =>
                  refine ⟨k + 1, _, 12 :: st, _, by omega, by go_num, rfl, ?_, Lib.hid (pvRun_take HX.out HP.out HS.out), by simp at hs3 ⊢; omega, hb2.setCell hg1 _⟩
                  have e : ((m :: st).reverse.map (Value.int .i64)).set st.length (.int .i64 12) = (12 :: st).reverse.map (Value.int .i64) := by
                    rw [List.reverse_cons, List.map_append, List.set_append_right (h := by simp)]
                    simp
                  rw [e] at hs
                  exact hs
                case measure => simp [intOf]; omega
              · rw [if_neg hm11] at hstep
                have HS := Lib.hid hstep
                have em : (m != 11) = true := by simp [hm11]
                clear hstep hm11
                go_wp2
                go_ret
                exact ⟨retb (pv_fail HX.out HP.out HS.out).symm, hb2⟩
          · have e12 : (x.op == 12) = false := beq_eq_false_iff_ne.2 h12
            by_cases h14 : x.op = 14
            · have e14 : (x.op == 14) = true := beq_iff_eq.2 h14
              cases st with
              | nil =>
                have HS := Lib.hid (step_end0 hv h14)
                clear h12 n11 n13 h14
                go_wp2
                go_ret
                exact ⟨retb (pv_fail HX.out HP.out HS.out).symm, hb2⟩
              | cons m st =>
                have HS := Lib.hid (step_end (m := m) (t := st) hv h14)
                have ht := ho1.take_ (m := st.length) (by simp)
                clear h12 n11 n13 h14
                have h4 : ¬ 3 < st.length := by simp at hs3; omega
                have h5 : st.length ≤ c1 := by have := ho1.cap_; simp at this; omega
                go_wp2
                go_roundw
                case rel =>
                  refine ⟨k + 1, _, st, _, by omega, by go_num, rfl, ?_, Lib.hid (pvRun_take HX.out HP.out HS.out), by omega, hb2⟩
                  have e : ((m :: st).reverse.map (Value.int .i64)).take (st.length * 1) = st.reverse.map (Value.int .i64) := by
                    rw [List.reverse_cons, List.map_append, List.take_append_of_le_length (by simp), List.take_of_length_le (by simp)]
                  rw [e] at ht
                  exact ht
                case measure => simp [intOf]; omega
            · have e14 : (x.op == 14) = false := beq_eq_false_iff_ne.2 h14
              have HS := Lib.hid (step_same (st := st) hv n11 n13 h12 h14)
              have h4 : ¬ 3 < st.length := by omega
              clear h12 n11 n13 h14
              go_wp2
              go_roundw
              case rel => exact ⟨k + 1, _, st, _, by omega, by go_num, rfl, ho1, Lib.hid (pvRun_take HX.out HP.out HS.out), hs3, hb2⟩
              case measure => simp [intOf]; omega
    · obtain rfl : k = l.length := by omega
      have hp := HP.out
      rw [List.take_length] at hp
      have HQ := Lib.hid hp
      clear hp
      go_wp2_with fail
      all_goals go_ret
      all_goals refine ⟨retb ?_, hb⟩
      all_goals (unfold pv; rw [HQ.out])
      · have h : st = [] := by assumption
        subst h
        simp only [Bool.and_true]
        exact decide_eq_decide.2 (by omega)
      · have h : ¬ st = [] := by assumption
        cases st with
        | nil => exact absurd rfl h
        | cons m st => simp

def chk (o : Int) (i : Nat) (n : Int) : Bool :=
  if (i : Int) < regsN o then inR n 0 3 else if i == 1 && o == 1 then inR n 0 255 else if i == 1 && o == 13 then inR n 1 4 else n == 0

theorem chk_all (x : Cd) : (chk x.op 0 x.a && (chk x.op 1 x.b && (chk x.op 2 x.c && inR x.op 1 14))) = cvOk x := by
  rcases x with ⟨o, a, b, c⟩
  simp only
  by_cases h : 1 ≤ o ∧ o ≤ 14
  · obtain ⟨h1, h2⟩ := h
    have : o = 1 ∨ o = 2 ∨ o = 3 ∨ o = 4 ∨ o = 5 ∨ o = 6 ∨ o = 7 ∨ o = 8 ∨ o = 9 ∨ o = 10 ∨ o = 11 ∨ o = 12 ∨ o = 13 ∨ o = 14 := by omega
    rcases this with rfl | rfl | rfl | rfl | rfl | rfl | rfl | rfl | rfl | rfl | rfl | rfl | rfl | rfl <;> simp [chk, regsN, cvOk, inR, Bool.and_assoc]
  · have e : ∀ k : Int, 1 ≤ k → k ≤ 14 → (o == k) = false := fun k a b => by rw [beq_eq_false_iff_ne]; omega
    have e2 : inR o 1 14 = false := by rw [inR_not]; omega
    simp [chk, regsN, cvOk, e, e2]

def numAt (a b c : Int) (k : Nat) : Int := if k = 0 then a else if k = 1 then b else c

set_option maxRecDepth 100000 in
set_option maxHeartbeats 2000000 in
theorem iCodeValid_c (x : Cd) (w : World) :
    Calls Tryz.prog 83 #[x.val] w fun e w' => e = .returned (.bool (cvOk x)) ∧ Below w.heap.size w w' := by
  have HC := Lib.hid (chk_all x)
  obtain ⟨o, a, b, c⟩ := x
  unfold Cd.val
  go_enter Tryz.func83, Tryz.ntmps83
  go_wp2
  have hb0 : Below w.heap.size w ((w.alloc (.cells #[.int .i64 o, .int .i64 a, .int .i64 b, .int .i64 c] 76)).alloc (.cells #[.int .i64 a, .int .i64 b, .int .i64 c] 3)) := (by repeat (first | exact Below.refl _ _ | assumption | refine Below.alloc ?_ (by simp <;> omega) _ | refine Below.setCell ?_ (by simp <;> omega) _ | refine Below.drew ?_))
  have hop : ((w.alloc (.cells #[.int .i64 o, .int .i64 a, .int .i64 b, .int .i64 c] 76)).alloc (.cells #[.int .i64 a, .int .i64 b, .int .i64 c] 3)).cell? ⟨w.heap.size, 0, none⟩ = some (.int .i64 o) := by simp [go_sem]
  have hn : ∀ k, k < 3 → ((w.alloc (.cells #[.int .i64 o, .int .i64 a, .int .i64 b, .int .i64 c] 76)).alloc (.cells #[.int .i64 a, .int .i64 b, .int .i64 c] 3)).cell? ⟨w.heap.size + 1, k, none⟩ = some (.int .i64 (numAt a b c k)) := by
    intro k hk
    have : k = 0 ∨ k = 1 ∨ k = 2 := by omega
    rcases this with rfl | rfl | rfl <;> simp [go_sem, numAt]
  generalize (w.alloc (.cells #[.int .i64 o, .int .i64 a, .int .i64 b, .int .i64 c] 76)).alloc (.cells #[.int .i64 a, .int .i64 b, .int .i64 c] 3) = w1 at *
  have HN := Lib.hid hn
  clear hn
  go_loop [15] (fun i => ∃ k : Nat, k ≤ 3 ∧ i = .int .i64 k ∧ Hid (∀ j, j < k → chk o j (numAt a b c j) = true)) (fun i => 3 - (intOf i).toNat)
  case atStart => exact ⟨0, by omega, rfl, fun j hj => by omega⟩
  case round =>
    obtain ⟨k, hk, rfl, HP⟩ := hrel
    by_cases hlt : k < 3
    · have h3 : k = 0 ∨ k = 1 ∨ k = 2 := by omega
      clear hk hlt
      rcases h3 with rfl | rfl | rfl
      case inl =>
        have hc := HN.out 0 (by omega)
        have hz : numAt a b c 0 = a := rfl
        rw [hz] at hc
        have HZ := Lib.hid hz
        clear hz
        go_wp2_with (first | (go_at_call 119; refine (registers_c _ _).mono ?_; rintro e w' ⟨rfl, rfl⟩) | (go_at_call 120; refine (isReg_c _ _).mono ?_; rintro e w' ⟨rfl, rfl⟩) | (go_at_call 86; refine (isWord_c _ _).mono ?_; rintro e w' ⟨rfl, rfl⟩) | (go_at_call 54; refine (within_c _ _ _ _).mono ?_; rintro e w' ⟨rfl, rfl⟩))
        all_goals
          first
            | (go_ret
               have hf : chk o 0 a = false := by (unfold chk; first | (rw [if_pos (by omega)]; simp_all; done) | (rw [if_neg (by omega)]; simp_all; done))
               have hx := HC.out
               simp only [hf] at hx
               exact ⟨retb (by simpa using hx), hb0⟩)
            | (have hf : chk o 0 a = true := by (unfold chk; first | (rw [if_pos (by omega)]; simp_all; done) | (rw [if_neg (by omega)]; simp_all; done))
               go_round
               case rel => exact ⟨1, by omega, by go_num, fun j hj => by obtain rfl : j = 0 := (by omega); rw [HZ.out]; exact hf⟩
               case measure => simp [intOf])
      case inr.inl =>
        have hc := HN.out 1 (by omega)
        have hz : numAt a b c 1 = b := rfl
        rw [hz] at hc
        have HZ := Lib.hid hz
        clear hz
        go_wp2_with (first | (go_at_call 119; refine (registers_c _ _).mono ?_; rintro e w' ⟨rfl, rfl⟩) | (go_at_call 120; refine (isReg_c _ _).mono ?_; rintro e w' ⟨rfl, rfl⟩) | (go_at_call 86; refine (isWord_c _ _).mono ?_; rintro e w' ⟨rfl, rfl⟩) | (go_at_call 54; refine (within_c _ _ _ _).mono ?_; rintro e w' ⟨rfl, rfl⟩))
        all_goals
          first
            | (go_ret
               have hf : chk o 1 b = false := by (unfold chk; first | (rw [if_pos (by omega)]; simp_all; done) | (rw [if_neg (by omega)]; simp_all; done))
               have hx := HC.out
               simp only [hf] at hx
               exact ⟨retb (by simpa using hx), hb0⟩)
            | (have hf : chk o 1 b = true := by (unfold chk; first | (rw [if_pos (by omega)]; simp_all; done) | (rw [if_neg (by omega)]; simp_all; done))
               go_round
               case rel => exact ⟨2, by omega, by go_num, fun j hj => by
                 by_cases hj0 : j = 0
                 · subst hj0; exact HP.out 0 (by omega)
                 · obtain rfl : j = 1 := by omega
                   rw [HZ.out]; exact hf⟩
               case measure => simp [intOf])
      case inr.inr =>
        have hc := HN.out 2 (by omega)
        have hz : numAt a b c 2 = c := rfl
        rw [hz] at hc
        have HZ := Lib.hid hz
        clear hz
        go_wp2_with (first | (go_at_call 119; refine (registers_c _ _).mono ?_; rintro e w' ⟨rfl, rfl⟩) | (go_at_call 120; refine (isReg_c _ _).mono ?_; rintro e w' ⟨rfl, rfl⟩) | (go_at_call 86; refine (isWord_c _ _).mono ?_; rintro e w' ⟨rfl, rfl⟩) | (go_at_call 54; refine (within_c _ _ _ _).mono ?_; rintro e w' ⟨rfl, rfl⟩))
        all_goals
          first
            | (go_ret
               have hf : chk o 2 c = false := by (unfold chk; first | (rw [if_pos (by omega)]; simp_all; done) | (rw [if_neg (by omega)]; simp_all; done))
               have hx := HC.out
               simp only [hf] at hx
               exact ⟨retb (by simpa using hx), hb0⟩)
            | (have hf : chk o 2 c = true := by (unfold chk; first | (rw [if_pos (by omega)]; simp_all; done) | (rw [if_neg (by omega)]; simp_all; done))
               go_round
               case rel => exact ⟨3, by omega, by go_num, fun j hj => by
                 by_cases hj0 : j = 2
                 · subst hj0
                   rw [HZ.out]; exact hf
                 · exact HP.out j (by omega)⟩
               case measure => simp [intOf])
    · obtain rfl : k = 3 := by omega
      go_wp2_with (go_at_call 54; refine (within_c _ _ _ _).mono ?_; rintro e w' ⟨rfl, rfl⟩)
      go_ret
      have h0 := HP.out 0 (by omega)
      have h1 := HP.out 1 (by omega)
      have h2 := HP.out 2 (by omega)
      have hx := HC.out
      simp [numAt] at h0 h1 h2
      simp only [h0, h1, h2, Bool.true_and] at hx
      exact ⟨retb hx, hb0⟩

end Go.Proofs.YtelbfeidpcojmaaGreat
