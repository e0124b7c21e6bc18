/- Part 2 of what the claim needs. -/
import Derived.Test.YtelbfeidpcojmaaGreatLau1
import Derived.Test.YtelbfeidpcojmaaGreatProg
import Derived.WalkKit
import Derived.Outline
import Derived.Handy
import Derived.Lib.Hide
import Derived.WalkSmall
import Derived.OneCell
import Derived.Deep.AppendLies
import Derived.Deep.Draws
import Derived.BigQuiet
import Derived.Deep.QuietTactic
import Derived.StillTailTactics
import Derived.Deep.RegionWith
import Derived.Laws.AppendOwnNone
import Derived.Deep.Cut
import Derived.Deep.CutRange
import Derived.Maps.RangeWalk
import Derived.WalkSpells
import Derived.RowKit3
namespace Go.Proofs.YtelbfeidpcojmaaGreat
open Go.RowKit
set_option linter.unusedVariables false
set_option linter.unusedSimpArgs false

theorem retb {a b : Bool} (h : a = b) : Ending.returned (.bool a) = .returned (.bool b) := by rw [h]
theorem reti {a b : Int} (h : a = b) : Ending.returned (.int .i64 a) = .returned (.int .i64 b) := by rw [h]

theorem block_of_add (a : Addr) (n : Nat) : (a.add n).block = a.block := by unfold Addr.add; split <;> rfl
theorem add_of_add (a : Addr) (i j : Nat) : (a.add i).add j = a.add (i + j) := by
  unfold Addr.add
  by_cases hi : i = 0 <;> by_cases hj : j = 0 <;> simp [hi, hj, Nat.add_assoc]
theorem add_lit (b o i : Nat) : (⟨b, o, none⟩ : Addr).add i = ⟨b, o + i, none⟩ := by
  unfold Addr.add
  split <;> simp_all

/-- A slice of n elements (of 'size' cells each) at A reads as the cells xs, in a block below B. -/
def Reads (w : World) (B size : Nat) (A : Option Addr) (n : Nat) (xs : List Value) : Prop :=
  xs.length = n * size ∧ (0 < n → ∃ b off, A = some ⟨b, off, none⟩ ∧ b < B ∧ ∀ j u, xs[j]? = some u → w.cell? ⟨b, off + j, none⟩ = some u)

section
variable {w w' : World} {B B' size n : Nat} {A : Option Addr} {xs : List Value}
theorem Reads.none_ : Reads w B size A 0 [] := ⟨by simp, fun h => absurd h (by omega)⟩
theorem Reads.keep (h : Reads w B size A n xs) (hk : ∀ p : Addr, p.block < B → w'.cell? p = w.cell? p) : Reads w' B size A n xs :=
  ⟨h.1, fun hn => by
    obtain ⟨b, off, e, hb, hc⟩ := h.2 hn
    exact ⟨b, off, e, hb, fun j u hu => (hk _ hb).trans (hc j u hu)⟩⟩
theorem Reads.more (h : Reads w B size A n xs) (hB : B ≤ B') : Reads w B' size A n xs :=
  ⟨h.1, fun hn => by
    obtain ⟨b, off, e, hb, hc⟩ := h.2 hn
    exact ⟨b, off, e, by omega, hc⟩⟩
theorem Reads.below (h : Reads w B size A n xs) (hb : Below B w w') : Reads w' B size A n xs := h.keep fun _ hp => hb.cell hp
theorem Reads.of_own {base : Nat} {e : TypeId} {c : Nat} (h : w.ownsRow base e size (.slice A n c) n xs) : Reads w w.heap.size size A n xs := by
  refine ⟨h.1, fun hn => ?_⟩
  obtain ⟨g, cap, hv, _, hlt⟩ := h.form hn
  have hA : A = some ⟨g, 0, none⟩ := by injection hv
  subst hA
  exact ⟨g, 0, rfl, hlt, fun j u hu => by rw [← add_lit]; exact h.cells (g := g) rfl j u hu⟩
end

theorem cell_kept {w w1 : World} {a : Addr} {v : Value} (hb : Below w.heap.size w w1) (h : w.cell? a = some v) : w1.cell? a = some v := (hb.cell (World.block_lt_of_cell? w a h)).trans h
theorem below_trans {B : Nat} {w w1 w2 : World} (h : Below B w w1) (hB : B ≤ w.heap.size) (h2 : Below w1.heap.size w1 w2) : Below B w w2 := h.trans (h2.mono (Nat.le_trans hB h.size))

/-! ### Types' rows of the table -/
theorem infoInt : (Tryz.prog.info? 3).map (fun i => (i.zero, i.size, i.bytes)) = some (some (.int .i64 0), 1, 8) := by kernel_rfl
theorem infoCode : (Tryz.prog.info? 76).map (fun i => (i.zero, i.size, i.bytes)) = some (some (.agg #[.int .i64 0, .int .i64 0, .int .i64 0, .int .i64 0]), 4, 32) := by kernel_rfl

theorem run_make_rowN {P : Program} (t e : TypeId) (i : TypeInfo) (z : Value) (ht : P.underlying t = some (.slice e)) (hi : P.info? e = some i) (hz : i.zero = some z)
    (kl kc : IntKind) (n c : Nat) (hnc : n ≤ c) (hbytes : i.bytes * c ≤ 281474976710656) (h63 : c ≤ 9223372036854775807) (w : World) :
    (Instr.makeSlice t (.int kl (n : Int)) (.int kc (c : Int))).run P w = .ok (.slice (some ⟨w.heap.size, 0, none⟩) n c) (w.alloc (.cells (madeCells z.cells (c * i.size)) e)) := by
  have hb : (i.bytes : Int) * (c : Int) ≤ 281474976710656 := by
    have h : ((i.bytes * c : Nat) : Int) ≤ 281474976710656 := by omega
    rwa [Int.natCast_mul] at h
  have hr := run_make (P := P) w t e i z ht hi hz kl kc n c (by omega) (by omega) hb (by omega)
  simp only [Int.toNat_natCast] at hr
  exact hr

/-- What a new row of n elements holds. -/
def zeroRow (z : Value) (m : Nat) : Array Value := madeCells z.cells m
theorem zeroRow_size (z : Value) (m : Nat) : (zeroRow z m).size = m := size_madeCells _ _
theorem make_int (n : Nat) (hn : n ≤ 1000000000000) (w : World) :
    (Instr.makeSlice 24 (.int .i64 (n : Int)) (.int .i64 (n : Int))).run Tryz.prog w = .ok (.slice (some ⟨w.heap.size, 0, none⟩) n n) (w.alloc (.cells (zeroRow (.int .i64 0) n) 3)) := by
  obtain ⟨i0, hi, hz0, hz1, hz2⟩ := info_parts infoInt
  have := run_make_rowN (P := Tryz.prog) 24 3 i0 _ Tryz.underlying24 hi hz0 .i64 .i64 n n (Nat.le_refl _) (by rw [hz2]; omega) (by omega) w
  rw [hz1, Nat.mul_one] at this
  exact this
theorem make_code (n : Nat) (hn : n ≤ 1000000000000) (w : World) :
    (Instr.makeSlice 23 (.int .i64 (n : Int)) (.int .i64 (n : Int))).run Tryz.prog w = .ok (.slice (some ⟨w.heap.size, 0, none⟩) n n) (w.alloc (.cells (zeroRow (.agg #[.int .i64 0, .int .i64 0, .int .i64 0, .int .i64 0]) (n * 4)) 76)) := by
  obtain ⟨i0, hi, hz0, hz1, hz2⟩ := info_parts infoCode
  have := run_make_rowN (P := Tryz.prog) 23 76 i0 _ Tryz.underlying23 hi hz0 .i64 .i64 n n (Nat.le_refl _) (by rw [hz2]; omega) (by omega) w
  rw [hz1] at this
  exact this

/-! ### Lists of instructions -/
def cdCells (x : Cd) : List Value := [.int .i64 x.op, .int .i64 x.a, .int .i64 x.b, .int .i64 x.c]
def cdsCells (l : List Cd) : List Value := l.flatMap cdCells
def Cd.val (x : Cd) : Value := .agg #[.int .i64 x.op, .int .i64 x.a, .int .i64 x.b, .int .i64 x.c]

theorem cdsCells_length (l : List Cd) : (cdsCells l).length = l.length * 4 := by
  induction l with
  | nil => rfl
  | cons x l ih => simp only [cdsCells, List.flatMap_cons, List.length_append, List.length_cons] at ih ⊢; rw [ih]; simp [cdCells]; omega

theorem cdsCells_get (l : List Cd) : ∀ (k : Nat) (x : Cd), l[k]? = some x → ∀ j, j < 4 → (cdsCells l)[k * 4 + j]? = (cdCells x)[j]? := by
  induction l with
  | nil => intro k x h; simp at h
  | cons y l ih =>
    intro k x h j hj
    cases k with
    | zero =>
      simp at h
      subst h
      simp only [cdsCells, List.flatMap_cons, Nat.zero_mul, Nat.zero_add]
      rw [List.getElem?_append_left (by simpa [cdCells] using hj)]
    | succ k =>
      simp only [List.getElem?_cons_succ] at h
      have := ih k x h j hj
      simp only [cdsCells, List.flatMap_cons]
      rw [List.getElem?_append_right (by simp [cdCells]; omega)]
      rw [← this]
      congr 1
      simp [cdCells]
      omega

theorem cdsCells_append (l m : List Cd) : cdsCells (l ++ m) = cdsCells l ++ cdsCells m := by simp [cdsCells]

/-- The slice at A reads as a program. -/
def RdC (w : World) (B : Nat) (A : Option Addr) (l : List Cd) : Prop := Reads w B 4 A l.length (cdsCells l)
/-- The slice at A reads as numbers. -/
def RdI (w : World) (B : Nat) (A : Option Addr) (l : List Int) : Prop := Reads w B 1 A l.length (l.map (.int .i64))

section
variable {w w' : World} {B B' : Nat} {A : Option Addr} {l : List Cd} {xs : List Int}
theorem RdC.below (h : RdC w B A l) (hb : Below B w w') : RdC w' B A l := Reads.below h hb
theorem RdC.more (h : RdC w B A l) (hB : B ≤ B') : RdC w B' A l := Reads.more h hB
theorem RdI.below (h : RdI w B A xs) (hb : Below B w w') : RdI w' B A xs := Reads.below h hb
theorem RdI.more (h : RdI w B A xs) (hB : B ≤ B') : RdI w B' A xs := Reads.more h hB
theorem RdC.at_ (h : RdC w B A l) {k : Nat} (hk : k < l.length) :
    ∃ b off x, A = some ⟨b, off, none⟩ ∧ b < B ∧ l[k]? = some x ∧
      w.cell? ⟨b, off + k * 4, none⟩ = some (.int .i64 x.op) ∧ w.cell? ⟨b, off + k * 4 + 1, none⟩ = some (.int .i64 x.a) ∧
      w.cell? ⟨b, off + k * 4 + 2, none⟩ = some (.int .i64 x.b) ∧ w.cell? ⟨b, off + k * 4 + 3, none⟩ = some (.int .i64 x.c) := by
  obtain ⟨b, off, e, hb, hc⟩ := h.2 (by omega)
  have hx : l[k]? = some l[k] := List.getElem?_eq_getElem hk
  have g := cdsCells_get l k _ hx
  exact ⟨b, off, l[k], e, hb, hx, hc (k * 4) _ (g 0 (by omega)), hc (k * 4 + 1) _ (g 1 (by omega)), hc (k * 4 + 2) _ (g 2 (by omega)), hc (k * 4 + 3) _ (g 3 (by omega))⟩
theorem RdI.at_ (h : RdI w B A xs) {k : Nat} (hk : k < xs.length) :
    ∃ b off x, A = some ⟨b, off, none⟩ ∧ b < B ∧ xs[k]? = some x ∧ w.cell? ⟨b, off + k, none⟩ = some (.int .i64 x) := by
  obtain ⟨b, off, e, hb, hc⟩ := h.2 (by omega)
  exact ⟨b, off, xs[k], e, hb, List.getElem?_eq_getElem hk, hc k _ (by simp [hk])⟩
end

/-! ### Rows of the call's own -/
def OR (w : World) (base : Nat) (e : TypeId) (size : Nat) (A : Option Addr) (n c : Nat) (xs : List Value) : Prop := w.ownsRow base e size (.slice A n c) n xs
def OI (w : World) (base : Nat) (A : Option Addr) (n c : Nat) (xs : List Int) : Prop := OR w base 3 1 A n c (xs.map (.int .i64))
def OC (w : World) (base : Nat) (A : Option Addr) (n c : Nat) (l : List Cd) : Prop := OR w base 76 4 A n c (cdsCells l)

section
variable {w w' : World} {base e size n c : Nat} {A : Option Addr} {xs : List Value}
theorem OR.nil_ (w : World) (base e size : Nat) : OR w base e size none 0 0 [] := World.ownsRow_nil _ _ _ _
theorem OR.len (h : OR w base e size A n c xs) : xs.length = n * size := h.1
theorem OR.slice_ {v : Value} (h : w.ownsRow base e size v n xs) : ∃ A c, v = .slice A n c ∧ OR w base e size A n c xs := by
  rcases h.2 with ⟨rfl, rfl⟩ | ⟨g, cap, cur, rfl, _⟩
  · exact ⟨none, 0, rfl, h⟩
  · exact ⟨_, _, rfl, h⟩
theorem OR.alloc (h : OR w base e size A n c xs) (o : Obj) : OR (w.alloc o) base e size A n c xs := World.ownsRow.alloc h o
theorem OR.drew (h : OR w base e size A n c xs) : OR w.drew base e size A n c xs := h
theorem OR.block (h : OR w base e size A n c xs) : ∀ k, Value.ownBlock (.slice A n c) = some k → base ≤ k ∧ k < w.heap.size := World.ownsRow.lt h
theorem OR.keep (h : OR w base e size A n c xs) (hk : ∀ k, k < w.heap.size → base ≤ k → w'.heap[k]? = w.heap[k]?) : OR w' base e size A n c xs := by
  refine ⟨h.1, ?_⟩
  rcases h.2 with hn | ⟨g, cap, cur, hv, hb, hg, r⟩
  · exact .inl hn
  · exact .inr ⟨g, cap, cur, hv, hb, by rw [hk g (Array.getElem?_eq_some_iff.1 hg).1 hb]; exact hg, r⟩
theorem OR.below {B : Nat} (h : OR w base e size A n c xs) (hb : Below B w w') (hB : w.heap.size ≤ B) : OR w' base e size A n c xs :=
  h.keep fun k hk _ => hb.block k (by omega)
theorem OR.kept {row : Option Nat} (h : OR w base e size A n c xs) (hg : w.grownBy w' row) (hne : Value.ownBlock (.slice A n c) = none ∨ Value.ownBlock (.slice A n c) ≠ row) : OR w' base e size A n c xs := World.ownsRow.kept h hg hne
theorem OR.reads (h : OR w base e size A n c xs) : Reads w w.heap.size size A n xs := Reads.of_own h
theorem OR.mono {base' : Nat} (h : OR w base e size A n c xs) (hb : base' ≤ base) : OR w base' e size A n c xs := by
  refine ⟨h.1, ?_⟩
  rcases h.2 with hn | ⟨g, cap, cur, hv, hbg, r⟩
  · exact .inl hn
  · exact .inr ⟨g, cap, cur, hv, by omega, r⟩
theorem OR.at_ (h : OR w base e size A n c xs) (hn : 0 < n) : ∃ g, A = some ⟨g, 0, none⟩ ∧ base ≤ g ∧ g < w.heap.size ∧
    (∀ j u, xs[j]? = some u → w.cell? ⟨g, j, none⟩ = some u) ∧ (∀ j, w.frozen? ⟨g, j, none⟩ = false) ∧
    (∀ j u, OR (w.setCell ⟨g, j, none⟩ u) base e size A n c (xs.set j u)) := by
  obtain ⟨g, cap, hv, hb, hlt⟩ := World.ownsRow.form h hn
  have hA : A = some ⟨g, 0, none⟩ := by injection hv
  subst hA
  refine ⟨g, rfl, hb, hlt, fun j u hu => ?_, fun j => World.ownsRow.frozenAt h j, fun j u => (World.ownsRow.stored h j u).1⟩
  have := World.ownsRow.cells h (g := g) rfl j u hu
  rwa [add_lit, Nat.zero_add] at this
theorem OR.at0 {g : Nat} (h : OR w base e size (some ⟨g, 0, none⟩) n c xs) :
    (∀ j u, xs[j]? = some u → w.cell? ⟨g, j, none⟩ = some u) ∧ (∀ j, w.frozen? ⟨g, j, none⟩ = false) ∧
    (∀ j u, OR (w.setCell ⟨g, j, none⟩ u) base e size (some ⟨g, 0, none⟩) n c (xs.set j u)) := by
  refine ⟨fun j u hu => ?_, fun j => World.ownsRow.frozenAt h j, fun j u => (World.ownsRow.stored h j u).1⟩
  have := World.ownsRow.cells h (g := g) rfl j u hu
  rwa [add_lit, Nat.zero_add] at this
theorem OR.some_cell {g : Nat} (h : OR w base e size (some ⟨g, 0, none⟩) n c xs) (j : Nat) (hj : j < n * size) : ∃ u, w.cell? ⟨g, j, none⟩ = some u :=
  ⟨_, (OR.at0 h).1 j (xs[j]'(by rw [h.1]; exact hj)) (List.getElem?_eq_getElem (by rw [h.1]; exact hj))⟩
theorem OR.base_le {g : Nat} (h : OR w base e size (some ⟨g, 0, none⟩) n c xs) : base ≤ g ∧ g < w.heap.size := OR.block h g rfl
theorem OR.take_ (h : OR w base e size A n c xs) {m : Nat} (hm : m ≤ n) : OR w base e size A m c (xs.take (m * size)) := by
  have hl : (xs.take (m * size)).length = m * size := by
    rw [List.length_take, h.1]
    exact Nat.min_eq_left (Nat.mul_le_mul_right _ hm)
  refine ⟨hl, ?_⟩
  rcases h.2 with ⟨hv, rfl⟩ | ⟨g, cap, cur, hv, hb, hg, hnc, hcm, hcs, ht⟩
  · injection hv with hA _ hc
    subst hA hc
    have : m = 0 := by omega
    subst this
    exact .inl ⟨rfl, rfl⟩
  · injection hv with hA _ hc
    subst hA hc
    refine .inr ⟨g, c, cur, rfl, hb, hg, by omega, hcm, hcs, ?_⟩
    rw [← ht, List.take_take, Nat.min_eq_left (Nat.mul_le_mul_right _ hm)]
theorem OR.lit (w : World) (base e size n : Nat) (cs : Array Value) (hb : base ≤ w.heap.size) (hm : n ≤ 1000000000000) (hs : cs.size = n * size) :
    OR (w.alloc (.cells cs e)) base e size (some ⟨w.heap.size, 0, none⟩) n n cs.toList := World.ownsRow_lit w cs n hb (by unfold maxLen; omega) hs
end

/-- The cells of a new row of one element lie at its block. -/
theorem one_row {w : World} {g : Nat} {cs : List Value} (hc : ∀ j u, cs[j]? = some u → w.cell? ⟨g, j, none⟩ = some u) : ∀ j u, cs[j]? = some u → w.cell? ((⟨g, 0, none⟩ : Addr).add j) = some u := by
  intro j u hu
  rw [add_lit, Nat.zero_add]
  exact hc j u hu

section
variable {w : World} {ops : Array Oper} {rest : List Oper} {o : Oper} {a : Act} {Q : Exit → Act → World → Prop}
/-- append of elements that lie in a row. -/
theorem app_row (t e : TypeId) (z : Value) (size bytes : Nat) (ht : Tryz.prog.underlying t = some (.slice e)) (hinfo : (Tryz.prog.info? e).map (fun i => (i.zero, i.size, i.bytes)) = some (some z, size, bytes)) (hzs : z.cells.size = size) (hsz : 0 < size) (hby : bytes ≤ 64)
    (hgd : o.guard = none) (s x : Operand) (ho : o.op = .call { callee := .builtin .append, args := #[s, x], argTypes := #[t, t] })
    (base : Nat) (A : Option Addr) (n c : Nat) (xs : List Value) (hown : OR w base e size A n c xs) (hs : a.eval s = .slice A n c)
    (g m cc : Nat) (news : List Value) (hx : a.eval x = .slice (some ⟨g, 0, none⟩) m cc) (hl : news.length = m * size) (hc : ∀ j u, news[j]? = some u → w.cell? ⟨g, j, none⟩ = some u)
    (h1 : ∀ u ∈ news, u.oneCell' = true) (hn : n + m ≤ 1000000000000) (hbase : base ≤ w.heap.size)
    (hK : ∀ A' c' w', OR w' base e size A' (n + m) c' (xs ++ news) → w.grownBy w' (Value.ownBlock (.slice A n c)) → wpList Tryz.prog ops Q rest (a.put o.dst (.slice A' (n + m) c')) w') :
    wpList Tryz.prog ops Q (o :: rest) a w := by
  obtain ⟨i0, hi, hz0, hz1, hz2⟩ := info_parts hinfo
  have hb : (n + m) * bytes ≤ 140737488355328 := Nat.le_trans (Nat.mul_le_mul_left _ hby) (by omega)
  refine wpList_append_own _ hgd s x t ho base e i0 z size bytes ht hi hz0 hz1 hz2 hzs hsz _ _ _ hs hown ⟨g, 0, none⟩ m cc news hx hl (one_row hc) h1 (by unfold maxLen; omega) hb hbase ?_
  intro v' w' hown' hgrow _
  obtain ⟨A', c', rfl, h'⟩ := OR.slice_ hown'
  exact hK A' c' w' h' hgrow

theorem app_int (hgd : o.guard = none) (s x : Operand) (ho : o.op = .call { callee := .builtin .append, args := #[s, x], argTypes := #[24, 24] })
    (base : Nat) (A : Option Addr) (n c : Nat) (xs : List Int) (hown : OI w base A n c xs) (hs : a.eval s = .slice A n c)
    (y : Int) (g cc : Nat) (hx : a.eval x = .slice (some ⟨g, 0, none⟩) 1 cc) (hc : w.cell? ⟨g, 0, none⟩ = some (.int .i64 y)) (hn : n < 1000000000000) (hbase : base ≤ w.heap.size)
    (hK : ∀ A' c' w', OI w' base A' (n + 1) c' (xs ++ [y]) → w.grownBy w' (Value.ownBlock (.slice A n c)) → wpList Tryz.prog ops Q rest (a.put o.dst (.slice A' (n + 1) c')) w') :
    wpList Tryz.prog ops Q (o :: rest) a w :=
  app_row 24 3 _ 1 8 Tryz.underlying24 infoInt rfl (by decide) (by decide) hgd s x ho base A n c _ hown hs g 1 cc [.int .i64 y] hx rfl
    (by
      intro j u hu
      match j, hu with
      | 0, hu => simp at hu; subst hu; exact hc)
    (by intro u hu; simp at hu; subst hu; rfl) (by omega) hbase
    (fun A' c' w' h hg => hK A' c' w' (by unfold OI; rw [List.map_append]; exact h) hg)

theorem app_code (hgd : o.guard = none) (s x : Operand) (ho : o.op = .call { callee := .builtin .append, args := #[s, x], argTypes := #[23, 23] })
    (base : Nat) (A : Option Addr) (n c : Nat) (l : List Cd) (hown : OC w base A n c l) (hs : a.eval s = .slice A n c)
    (y : Cd) (g cc : Nat) (hx : a.eval x = .slice (some ⟨g, 0, none⟩) 1 cc)
    (h0 : w.cell? ⟨g, 0, none⟩ = some (.int .i64 y.op)) (h1 : w.cell? ⟨g, 1, none⟩ = some (.int .i64 y.a)) (h2 : w.cell? ⟨g, 2, none⟩ = some (.int .i64 y.b)) (h3 : w.cell? ⟨g, 3, none⟩ = some (.int .i64 y.c))
    (hn : n < 1000000000000) (hbase : base ≤ w.heap.size)
    (hK : ∀ A' c' w', OC w' base A' (n + 1) c' (l ++ [y]) → w.grownBy w' (Value.ownBlock (.slice A n c)) → wpList Tryz.prog ops Q rest (a.put o.dst (.slice A' (n + 1) c')) w') :
    wpList Tryz.prog ops Q (o :: rest) a w :=
  app_row 23 76 _ 4 32 Tryz.underlying23 infoCode rfl (by decide) (by decide) hgd s x ho base A n c _ hown hs g 1 cc (cdCells y) hx rfl
    (by
      intro j u hu
      match j, hu with
      | 0, hu => simp [cdCells] at hu; subst hu; exact h0
      | 1, hu => simp [cdCells] at hu; subst hu; exact h1
      | 2, hu => simp [cdCells] at hu; subst hu; exact h2
      | 3, hu => simp [cdCells] at hu; subst hu; exact h3)
    (by intro u hu; simp [cdCells] at hu; rcases hu with rfl | rfl | rfl | rfl <;> rfl) (by omega) hbase
    (fun A' c' w' h hg => hK A' c' w' (by unfold OC; rw [cdsCells_append]; simpa [cdsCells] using h) hg)
end

theorem within_c (x lo hi : Int) (w : World) :
    Calls Tryz.prog 54 #[.int .i64 x, .int .i64 lo, .int .i64 hi] w fun e w' => e = .returned (.bool (inR x lo hi)) ∧ w = w' := by
  by_cases h : lo ≤ x <;> by_cases h2 : x ≤ hi
  all_goals
    go_enter Tryz.func54, Tryz.ntmps54
    go_wp2
    go_ret
    exact ⟨by simp [inR, h, h2], rfl⟩

theorem l1In_c (x lo hi : Int) (w : World) :
    Calls Tryz.prog 33 #[.int .i64 x, .int .i64 lo, .int .i64 hi] w fun e w' => e = .returned (.bool (inR x lo hi)) ∧ w = w' := by
  by_cases h : lo ≤ x <;> by_cases h2 : x ≤ hi
  all_goals
    go_enter Tryz.func33, Tryz.ntmps33
    go_wp2
    go_ret
    exact ⟨by simp [inR, h, h2], rfl⟩

theorem isLanes_c (x : Int) (w : World) :
    Calls Tryz.prog 49 #[.int .i64 x] w fun e w' => e = .returned (.bool (inR x 1 8)) ∧ w = w' := by
  go_enter Tryz.func49, Tryz.ntmps49
  go_wp2_with (go_at_call 54; refine (within_c _ _ _ _).mono ?_; rintro e w' ⟨rfl, rfl⟩)
  go_ret
  exact ⟨rfl, rfl⟩

theorem isWord_c (x : Int) (w : World) :
    Calls Tryz.prog 86 #[.int .i64 x] w fun e w' => e = .returned (.bool (inR x 0 255)) ∧ w = w' := by
  go_enter Tryz.func86, Tryz.ntmps86
  go_wp2_with (go_at_call 54; refine (within_c _ _ _ _).mono ?_; rintro e w' ⟨rfl, rfl⟩)
  go_ret
  exact ⟨rfl, rfl⟩

theorem isReg_c (x : Int) (w : World) :
    Calls Tryz.prog 120 #[.int .i64 x] w fun e w' => e = .returned (.bool (inR x 0 3)) ∧ w = w' := by
  go_enter Tryz.func120, Tryz.ntmps120
  go_wp2_with (go_at_call 54; refine (within_c _ _ _ _).mono ?_; rintro e w' ⟨rfl, rfl⟩)
  go_ret
  exact ⟨rfl, rfl⟩

theorem l2Word_c (x : Int) (w : World) :
    Calls Tryz.prog 68 #[.int .i64 x] w fun e w' => e = .returned (.bool (inR x 0 255)) ∧ w = w' := by
  go_enter Tryz.func68, Tryz.ntmps68
  go_wp2_with (go_at_call 33; refine (l1In_c _ _ _ _).mono ?_; rintro e w' ⟨rfl, rfl⟩)
  go_ret
  exact ⟨rfl, rfl⟩

theorem registers_c (o : Int) (w : World) :
    Calls Tryz.prog 119 #[.int .i64 o] w fun e w' => e = .returned (.int .i64 (regsN o)) ∧ w = w' := by
  go_enter Tryz.func119, Tryz.ntmps119
  go_wp2
  all_goals go_ret
  all_goals refine ⟨reti ?_, rfl⟩
  all_goals (unfold regsN; simp_all)

theorem infoRows : (Tryz.prog.info? 24).map (fun i => (i.zero, i.size, i.bytes)) = some (some (.slice none 0 0), 1, 24) := by kernel_rfl

theorem infoBeat : (Tryz.prog.info? 78).map (fun i => (i.zero, i.size, i.bytes)) = some (some (.agg #[.int .i64 0, .int .i64 0]), 2, 16) := by kernel_rfl

theorem infoAcc : (Tryz.prog.info? 130).map (fun i => (i.zero, i.size, i.bytes)) = some (some (.agg #[.int .i64 0, .int .i64 0, .bool false, .int .i64 0]), 4, 32) := by kernel_rfl


theorem grown_set {w w1 : World} {g : Nat} (h : w.grownBy w1 (some g)) (j : Nat) (u : Value) : w.grownBy (w1.setCell ⟨g, j, none⟩ u) (some g) :=
  ⟨h.os, h.tape, h.output, by simpa [World.setCell] using h.size, fun k hk hne => (Below.heap_setCell w1 _ u k (fun e => hne (by subst e; rfl))).trans (h.block k hk hne)⟩
theorem grown_refl (w : World) (row : Option Nat) : w.grownBy w row := ⟨rfl, rfl, rfl, Nat.le_refl _, fun _ _ _ => rfl⟩

theorem Reads.at1 {w : World} {B n : Nat} {A : Option Addr} {xs : List Value} (h : Reads w B 1 A n xs) {k : Nat} (hk : k < n) :
    ∃ b off u, A = some ⟨b, off, none⟩ ∧ b < B ∧ xs[k]? = some u ∧ w.cell? ⟨b, off + k, none⟩ = some u := by
  obtain ⟨b, off, e, hb, hc⟩ := h.2 (by omega)
  have hl : k < xs.length := by have := h.1; omega
  exact ⟨b, off, xs[k], e, hb, List.getElem?_eq_getElem hl, hc k _ (List.getElem?_eq_getElem hl)⟩

/-- Replacing element k of a list by the next element of another one. -/
theorem take_set_drop {α : Type} (xs zs : List α) (k : Nat) (x : α) (hx : xs[k]? = some x) (hk : k < zs.length) : (xs.take k ++ zs.drop k).set k x = xs.take (k + 1) ++ zs.drop (k + 1) := by
  obtain ⟨hl, rfl⟩ := List.getElem?_eq_some_iff.1 hx
  have hlen : (xs.take k).length = k := by simp; omega
  rw [List.set_append_right (h := by omega), hlen, Nat.sub_self, List.drop_eq_getElem_cons hk, List.set_cons_zero, List.take_succ_eq_append_getElem hl, List.append_assoc]
  rfl


theorem OR.cap_ {w : World} {base e size n c : Nat} {A : Option Addr} {xs : List Value} (h : OR w base e size A n c xs) : n ≤ c := by
  rcases h.2 with ⟨hv, rfl⟩ | ⟨g, cap, cur, hv, _, _, hnc, _⟩
  · exact Nat.zero_le _
  · injection hv with _ _ hc
    omega
theorem OR.heap_ {w : World} {base e size n c g : Nat} {xs : List Value} (h : OR w base e size (some ⟨g, 0, none⟩) n c xs) : ∃ cur, w.heap[g]? = some (.cells cur e (0, 0)) := by
  rcases h.2 with ⟨hv, _⟩ | ⟨g', cap, cur, hv, _, hg, _⟩
  · cases hv
  · injection hv with hA _ _
    injection hA with hA
    injection hA with hA
    subst hA
    exact ⟨cur, hg⟩

theorem below_app {B base e size n c : Nat} {A : Option Addr} {xs : List Value} {w0 w1 w2 : World} {o : Obj} (hb : Below B w0 w1) (hB : B ≤ w1.heap.size) (ho : OR w1 base e size A n c xs) (hbase : B ≤ base)
    (hg : (w1.alloc o).grownBy w2 (Value.ownBlock (.slice A n c))) : Below B w0 w2 :=
  (hb.alloc hB o).grown hg (by simp; omega) (fun k h => Nat.le_trans hbase (ho.block k h).1)

section
variable {w : World} {ops : Array Oper} {rest : List Oper} {o : Oper} {a : Act} {Q : Exit → Act → World → Prop}
/-- append of a whole own row (nil, empty or not). -/
theorem app_own (t e : TypeId) (z : Value) (size bytes : Nat) (ht : Tryz.prog.underlying t = some (.slice e)) (hinfo : (Tryz.prog.info? e).map (fun i => (i.zero, i.size, i.bytes)) = some (some z, size, bytes)) (hzs : z.cells.size = size) (hsz : 0 < size) (hby : bytes ≤ 64)
    (hgd : o.guard = none) (s x : Operand) (ho : o.op = .call { callee := .builtin .append, args := #[s, x], argTypes := #[t, t] })
    (base : Nat) (A : Option Addr) (n c : Nat) (xs : List Value) (hown : OR w base e size A n c xs) (hs : a.eval s = .slice A n c)
    (base2 : Nat) (A2 : Option Addr) (m cc : Nat) (news : List Value) (hsrc : OR w base2 e size A2 m cc news) (hx : a.eval x = .slice A2 m cc)
    (h1 : ∀ u ∈ news, u.oneCell' = true) (hn : n + m ≤ 1000000000000) (hbase : base ≤ w.heap.size)
    (hK : ∀ A' c' w', OR w' base e size A' (n + m) c' (xs ++ news) → w.grownBy w' (Value.ownBlock (.slice A n c)) → wpList Tryz.prog ops Q rest (a.put o.dst (.slice A' (n + m) c')) w') :
    wpList Tryz.prog ops Q (o :: rest) a w := by
  rcases hsrc.2 with ⟨hv, rfl⟩ | ⟨g, cap, cur, hv, _⟩
  · injection hv with hA _ hc
    subst hA hc
    obtain ⟨i0, hi, hz0, hz1, hz2⟩ := info_parts hinfo
    have hnews : news = [] := List.eq_nil_of_length_eq_zero (by simpa using hsrc.1)
    subst hnews
    refine wpList_append_own_none hgd s x t ho base e i0 size ht hi _ _ _ hs hown hx ?_
    exact hK A c w (by simpa using hown) (grown_refl _ _)
  · injection hv with hA _ hc
    subst hA hc
    exact app_row t e z size bytes ht hinfo hzs hsz hby hgd s x ho base A n c xs hown hs g m cc news hx hsrc.1 hsrc.at0.1 h1 hn hbase hK
end

/-- Every block of w is as it was; there may be new ones. -/
structure Ext (w w' : World) : Prop where
  os : w'.os = w.os
  tape : w'.tape = w.tape
  output : w'.output = w.output
  size : w.heap.size ≤ w'.heap.size
  block : ∀ k, k < w.heap.size → w'.heap[k]? = w.heap[k]?
theorem Ext.of_below {w w' : World} (h : Below w.heap.size w w') : Ext w w' := ⟨h.os, h.tape, h.output, h.size, h.block⟩
theorem Ext.below {w w' : World} (h : Ext w w') : Below w.heap.size w w' := ⟨h.os, h.tape, h.output, h.size, h.block⟩
theorem Ext.refl (w : World) : Ext w w := ⟨rfl, rfl, rfl, Nat.le_refl _, fun _ _ => rfl⟩
theorem Ext.trans {a b c : World} (h : Ext a b) (k : Ext b c) : Ext a c :=
  ⟨k.os.trans h.os, k.tape.trans h.tape, k.output.trans h.output, Nat.le_trans h.size k.size, fun i hi => (k.block i (Nat.lt_of_lt_of_le hi h.size)).trans (h.block i hi)⟩
theorem Ext.alloc (w : World) (o : Obj) : Ext w (w.alloc o) := ⟨rfl, rfl, rfl, by simp, fun k hk => Below.heap_alloc w o k hk⟩
theorem Ext.drew (w : World) : Ext w w.drew := ⟨rfl, rfl, rfl, Nat.le_refl _, fun _ _ => rfl⟩
/-- Writes into new blocks alone. -/
theorem Ext.grown {a b c : World} {row : Option Nat} (h : Ext a b) (hg : b.grownBy c row) (hr : ∀ k, row = some k → a.heap.size ≤ k) : Ext a c :=
  ⟨hg.os.trans h.os, hg.tape.trans h.tape, hg.output.trans h.output, Nat.le_trans h.size hg.size,
    fun k hk => (hg.block k (Nat.lt_of_lt_of_le hk h.size) (fun e => by have := hr k e.symm; omega)).trans (h.block k hk)⟩
theorem Ext.heap_ {w w' : World} (h : Ext w w') {g : Nat} {o : Obj} (hg : w.heap[g]? = some o) : w'.heap[g]? = some o :=
  (h.block g (lt_of_block hg)).trans hg
theorem OR.ext {w w' : World} {base e size n c : Nat} {A : Option Addr} {xs : List Value} (h : OR w base e size A n c xs) (hx : Ext w w') : OR w' base e size A n c xs :=
  h.keep fun k hk _ => hx.block k hk
theorem Ext.cell {w w' : World} (h : Ext w w') {p : Addr} {v : Value} (hc : w.cell? p = some v) : w'.cell? p = some v := cell_kept h.below hc

theorem cell_of_heap {w : World} {g : Nat} {cs : Array Value} {t : TypeId} (h : w.heap[g]? = some (.cells cs t (0, 0))) (i : Nat) : w.cell? ⟨g, i, none⟩ = cs[i]? := cell_of_row w g i cs t (0, 0) h
theorem free_of_heap {w : World} {g : Nat} {cs : Array Value} {t : TypeId} (h : w.heap[g]? = some (.cells cs t (0, 0))) (i : Nat) : w.frozen? ⟨g, i, none⟩ = false := by simp [World.frozen?, h]
theorem heap_set_same {w : World} {g : Nat} {cs : Array Value} {t : TypeId} (h : w.heap[g]? = some (.cells cs t (0, 0))) (i : Nat) (u : Value) : (w.setCell ⟨g, i, none⟩ u).heap[g]? = some (.cells (cs.setIfInBounds i u) t (0, 0)) := by
  simp [World.setCell, Array.getElem?_modify, h]
theorem heap_set_other {w : World} {g b : Nat} (hne : b ≠ g) (i : Nat) (u : Value) : (w.setCell ⟨g, i, none⟩ u).heap[b]? = w.heap[b]? := Below.heap_setCell w _ u b hne
theorem size_set (w : World) (p : Addr) (u : Value) : (w.setCell p u).heap.size = w.heap.size := by simp [World.setCell]
theorem OR.set_other {w : World} {base e size n c : Nat} {A : Option Addr} {xs : List Value} (h : OR w base e size A n c xs) {p : Addr} (hne : Value.ownBlock (.slice A n c) ≠ some p.block) (u : Value) : OR (w.setCell p u) base e size A n c xs :=
  ownsRow_setCell_other h hne u

theorem RdC.at0 {w : World} {B b off : Nat} {l : List Cd} (h : RdC w B (some ⟨b, off, none⟩) l) {k : Nat} {x : Cd} (hx : l[k]? = some x) :
    b < B ∧ w.cell? ⟨b, off + k * 4, none⟩ = some (.int .i64 x.op) ∧ w.cell? ⟨b, off + k * 4 + 1, none⟩ = some (.int .i64 x.a) ∧
      w.cell? ⟨b, off + k * 4 + 2, none⟩ = some (.int .i64 x.b) ∧ w.cell? ⟨b, off + k * 4 + 3, none⟩ = some (.int .i64 x.c) := by
  have hk : k < l.length := (List.getElem?_eq_some_iff.1 hx).1
  obtain ⟨b', off', x', e, hb, hx', h0, h1, h2, h3⟩ := h.at_ hk
  injection e with e
  injection e with e1 e2
  subst e1 e2
  rw [hx] at hx'
  injection hx' with hx'
  subst hx'
  exact ⟨hb, h0, h1, h2, h3⟩

theorem OI.len {w : World} {base n c : Nat} {A : Option Addr} {l : List Int} (h : OI w base A n c l) : l.length = n := by
  have := OR.len h; simpa using this
theorem OC.len {w : World} {base n c : Nat} {A : Option Addr} {l : List Cd} (h : OC w base A n c l) : l.length = n := by
  have := OR.len h; rw [cdsCells_length] at this; omega
theorem OI.rd {w : World} {base c : Nat} {A : Option Addr} {l : List Int} (h : OI w base A l.length c l) : RdI w w.heap.size A l := OR.reads h
theorem OC.rd {w : World} {base c : Nat} {A : Option Addr} {l : List Cd} (h : OC w base A l.length c l) : RdC w w.heap.size A l := OR.reads h
theorem OI.empty_ (w : World) (B : Nat) (hB : B ≤ w.heap.size) : OI (w.alloc (.cells #[] 3)) B (some ⟨w.heap.size, 0, none⟩) 0 0 [] :=
  (OR.lit w w.heap.size _ 1 0 #[] (Nat.le_refl _) (by omega) rfl).mono hB
theorem OC.empty_ (w : World) (B : Nat) (hB : B ≤ w.heap.size) : OC (w.alloc (.cells #[] 76)) B (some ⟨w.heap.size, 0, none⟩) 0 0 [] :=
  (OR.lit w w.heap.size _ 4 0 #[] (Nat.le_refl _) (by omega) rfl).mono hB
theorem OI.nil_ (w : World) (B : Nat) : OI w B none 0 0 [] := OR.nil_ _ _ _ _
theorem OC.nil_ (w : World) (B : Nat) : OC w B none 0 0 [] := OR.nil_ _ _ _ _

/-- A row of the call's own, or an empty slice whatever its address. -/
def OwC (w : World) (base : Nat) (A : Option Addr) (n c : Nat) (l : List Cd) : Prop := (n = 0 ∧ l = [] ∧ (A = none → c = 0)) ∨ OC w base A n c l
def OwI (w : World) (base : Nat) (A : Option Addr) (n c : Nat) (l : List Int) : Prop := (n = 0 ∧ l = []) ∨ OI w base A n c l
theorem OwC.len {w : World} {base n c : Nat} {A : Option Addr} {l : List Cd} (h : OwC w base A n c l) : l.length = n := by
  rcases h with ⟨h1, h2, -⟩ | h
  · rw [h1, h2]; rfl
  · exact OC.len h
theorem OwI.len {w : World} {base n c : Nat} {A : Option Addr} {l : List Int} (h : OwI w base A n c l) : l.length = n := by
  rcases h with ⟨h1, h2⟩ | h
  · rw [h1, h2]; rfl
  · exact OI.len h
theorem OwC.below {w w' : World} {base n c B : Nat} {A : Option Addr} {l : List Cd} (h : OwC w base A n c l) (hb : Below B w w') (hB : w.heap.size ≤ B) : OwC w' base A n c l :=
  h.imp id (fun h => OR.below h hb hB)
theorem OwI.below {w w' : World} {base n c B : Nat} {A : Option Addr} {l : List Int} (h : OwI w base A n c l) (hb : Below B w w') (hB : w.heap.size ≤ B) : OwI w' base A n c l :=
  h.imp id (fun h => OR.below h hb hB)
theorem OwC.rd {w : World} {base c : Nat} {A : Option Addr} {l : List Cd} (h : OwC w base A l.length c l) : RdC w w.heap.size A l := by
  rcases h with ⟨h1, h2, -⟩ | h
  · subst h2; exact Reads.none_.keep fun _ _ => rfl
  · exact OC.rd h
theorem OwI.rd {w : World} {base c : Nat} {A : Option Addr} {l : List Int} (h : OwI w base A l.length c l) : RdI w w.heap.size A l := by
  rcases h with ⟨h1, h2⟩ | h
  · subst h2; exact Reads.none_.keep fun _ _ => rfl
  · exact OI.rd h
theorem OC.nilc {w : World} {base n c : Nat} {A : Option Addr} {l : List Cd} (h : OC w base A n c l) (e : A = none) : c = 0 := by
  subst e
  rcases h.2 with ⟨hv, _⟩ | ⟨g, cap, cur, hv, _⟩
  · injection hv with _ _ h3
  · injection hv with h1
    cases h1
theorem OwC.nilc {w : World} {base n c : Nat} {A : Option Addr} {l : List Cd} (h : OwC w base A n c l) (e : A = none) : c = 0 := by
  rcases h with ⟨_, _, h⟩ | h
  · exact h e
  · exact h.nilc e
/-- A new row of numbers is returned. -/
def RetI (w : World) (l : List Int) (e : Ending) (w' : World) : Prop :=
  ∃ A c, e = .returned (.slice A l.length c) ∧ OwI w' w.heap.size A l.length c l ∧ Below w.heap.size w w'
/-- A new row of instructions is returned. -/
def RetC (w : World) (l : List Cd) (e : Ending) (w' : World) : Prop :=
  ∃ A c, e = .returned (.slice A l.length c) ∧ OwC w' w.heap.size A l.length c l ∧ Below w.heap.size w w'
theorem RetI.of {w w' : World} {l : List Int} {A : Option Addr} {n c : Nat} (h : OI w' w.heap.size A n c l) (hb : Below w.heap.size w w') : RetI w l (.returned (.slice A n c)) w' := by
  obtain rfl := OI.len h
  exact ⟨A, c, rfl, .inr h, hb⟩
theorem RetC.of {w w' : World} {l : List Cd} {A : Option Addr} {n c : Nat} (h : OC w' w.heap.size A n c l) (hb : Below w.heap.size w w') : RetC w l (.returned (.slice A n c)) w' := by
  obtain rfl := OC.len h
  exact ⟨A, c, rfl, .inr h, hb⟩
theorem RetC.mono {w w0 w' : World} {l : List Cd} {e : Ending} (h : RetC w0 l e w') (hb : Below w.heap.size w w0) : RetC w l e w' := by
  obtain ⟨A, c, he, ho, hb2⟩ := h
  exact ⟨A, c, he, ho.imp id (fun h => OR.mono h hb.size), below_trans hb (Nat.le_refl _) hb2⟩
theorem RetI.mono {w w0 w' : World} {l : List Int} {e : Ending} (h : RetI w0 l e w') (hb : Below w.heap.size w w0) : RetI w l e w' := by
  obtain ⟨A, c, he, ho, hb2⟩ := h
  exact ⟨A, c, he, ho.imp id (fun h => OR.mono h hb.size), below_trans hb (Nat.le_refl _) hb2⟩

/-- The four cells of an instruction, in a new block. -/
theorem cd_cells (w : World) (x : Cd) (t : TypeId) :
    (w.alloc (.cells #[.int .i64 x.op, .int .i64 x.a, .int .i64 x.b, .int .i64 x.c] t)).cell? ⟨w.heap.size, 0, none⟩ = some (.int .i64 x.op) ∧
    (w.alloc (.cells #[.int .i64 x.op, .int .i64 x.a, .int .i64 x.b, .int .i64 x.c] t)).cell? ⟨w.heap.size, 1, none⟩ = some (.int .i64 x.a) ∧
    (w.alloc (.cells #[.int .i64 x.op, .int .i64 x.a, .int .i64 x.b, .int .i64 x.c] t)).cell? ⟨w.heap.size, 2, none⟩ = some (.int .i64 x.b) ∧
    (w.alloc (.cells #[.int .i64 x.op, .int .i64 x.a, .int .i64 x.b, .int .i64 x.c] t)).cell? ⟨w.heap.size, 3, none⟩ = some (.int .i64 x.c) := by
  refine ⟨?_, ?_, ?_, ?_⟩ <;> simp [go_sem]

theorem OI.at0 {w : World} {base g n c : Nat} {r : List Int} (h : OI w base (some ⟨g, 0, none⟩) n c r) :
    (∀ j x, r[j]? = some x → w.cell? ⟨g, j, none⟩ = some (.int .i64 x)) ∧ (∀ j, w.frozen? ⟨g, j, none⟩ = false) ∧ (∀ j x, OI (w.setCell ⟨g, j, none⟩ (.int .i64 x)) base (some ⟨g, 0, none⟩) n c (r.set j x)) := by
  have h0 := OR.at0 h
  refine ⟨fun j x hx => h0.1 j _ (by rw [List.getElem?_map, hx]; rfl), h0.2.1, fun j x => ?_⟩
  have := h0.2.2 j (.int .i64 x)
  unfold OI
  rwa [← List.map_set] at this

theorem type_ne {w : World} {a b : Nat} {ca cb : Array Value} {s t : TypeId} (ha : w.heap[a]? = some (.cells ca s (0, 0))) (hb : w.heap[b]? = some (.cells cb t (0, 0))) (h : s ≠ t) : a ≠ b := by
  intro e
  subst e
  rw [ha] at hb
  injection hb with hb
  injection hb with _ hb
  exact h hb

theorem own_ne {w : World} {e size n c : Nat} {A : Option Addr} {xs : List Value} {base b : Nat} {cb : Array Value} {t : TypeId} (h : OR w base e size A n c xs) (hb : w.heap[b]? = some (.cells cb t (0, 0))) (hne : e ≠ t) : Value.ownBlock (.slice A n c) ≠ some b := by
  intro hk
  rcases h.2 with ⟨hv, _⟩ | ⟨g, cap, cur, hv, _, hg, _⟩
  · rw [hv] at hk; simp [Value.ownBlock] at hk
  · rw [hv] at hk
    simp [Value.ownBlock] at hk
    subst hk
    exact type_ne hg hb hne rfl

section
variable {P : Program} {ops rest : List Oper} {o : Oper} {Q : Exit → Act → World → Prop} {a : Act} {w : World}
theorem wp_store_row {K : Act → World → Prop} (ty : TypeId) (p x : Operand) (ho : o.op = .store ty p x) (b : Nat) (hp : a.eval p = .pointer (some ⟨b, 0, none⟩)) (cs old : Array Value) (t : TypeId)
    (hx : a.eval x = .agg cs) (hh : w.heap[b]? = some (.cells old t (0, 0))) (hi : (P.info? ty).map (·.size) = some cs.size) (hs : old.size = cs.size) (h1 : cs.all (·.oneCell') = true)
    (hK : K (a.put o.dst undef) (w.setRow b cs)) : Oper.wp P o a w K Q := by
  have hrun := run_storeVar_row (P := P) w b t ty old cs hh hi hs h1
  unfold Oper.wp
  simp [execOp, ho, Instr.storeAt, Instr.sureAddr, hp, hx, hrun, Result.andThen]
  exact hK
theorem wpList_load_row {opa : Array Oper} (hg : o.guard = none) (ty : TypeId) (p : Operand) (ho : o.op = .load ty p) (b : Nat) (hp : a.eval p = .pointer (some ⟨b, 0, none⟩)) (cs : Array Value) (t : TypeId) (fr : Nat × Nat)
    (hh : w.heap[b]? = some (.cells cs t fr)) (d : TypeDesc) (hu : P.underlying ty = some d) (hd : (match d with | .struct _ | .array _ _ => true | _ => false) = true) (hi : (P.info? ty).map (·.size) = some cs.size)
    (hK : wpList P opa Q rest (a.put o.dst (.agg cs)) w) : wpList P opa Q (o :: rest) a w := by
  refine wpList_step fun K hk => ?_
  rw [if_pos (by simp [Region.wanted, hg])]
  have hrun := run_loadVar_row (P := P) w b t ty cs fr d hh hu hd hi
  unfold Oper.wp
  simp [execOp, ho, Instr.loadAt, Instr.sureAddr, hp, hrun, Result.andThen]
  exact hk _ _ hK
theorem wpList_store_row {opa : Array Oper} (hg : o.guard = none) (ty : TypeId) (p x : Operand) (ho : o.op = .store ty p x) (b : Nat) (hp : a.eval p = .pointer (some ⟨b, 0, none⟩)) (cs old : Array Value) (t : TypeId)
    (hx : a.eval x = .agg cs) (hh : w.heap[b]? = some (.cells old t (0, 0))) (hi : (P.info? ty).map (·.size) = some cs.size) (hs : old.size = cs.size) (h1 : cs.all (·.oneCell') = true)
    (hK : wpList P opa Q rest (a.put o.dst undef) (w.setRow b cs)) : wpList P opa Q (o :: rest) a w := by
  refine wpList_step fun K hk => ?_
  rw [if_pos (by simp [Region.wanted, hg])]
  have hrun := run_storeVar_row (P := P) w b t ty old cs hh hi hs h1
  unfold Oper.wp
  simp [execOp, ho, Instr.storeAt, Instr.sureAddr, hp, hx, hrun, Result.andThen]
  exact hk _ _ hK
theorem heap_setRow_same {b : Nat} {cs old : Array Value} {t : TypeId} (hh : w.heap[b]? = some (.cells old t (0, 0))) : (w.setRow b cs).heap[b]? = some (.cells cs t (0, 0)) := by
  simp [World.setRow, Array.getElem?_modify, hh]
theorem heap_setRow_other {b j : Nat} {cs : Array Value} (hne : j ≠ b) : (w.setRow b cs).heap[j]? = w.heap[j]? := by
  have : ¬ b = j := fun e => hne e.symm
  simp [World.setRow, Array.getElem?_modify, this]
theorem size_setRow (b : Nat) (cs : Array Value) : (w.setRow b cs).heap.size = w.heap.size := by simp [World.setRow]
theorem grown_cell1 (w : World) (b i : Nat) (v : Value) : w.grownBy (w.setCell ⟨b, i, none⟩ v) (some b) :=
  ⟨rfl, rfl, rfl, by rw [size_set]; exact Nat.le_refl _, fun k hk hne => heap_set_other (fun e => hne (by rw [e])) i v⟩
theorem grown_setRow (b : Nat) (cs : Array Value) : w.grownBy (w.setRow b cs) (some b) :=
  ⟨rfl, rfl, rfl, by rw [size_setRow]; exact Nat.le_refl _, fun k hk hne => heap_setRow_other (fun e => hne (by rw [e]))⟩
theorem grown_then {a b c : World} {row : Option Nat} {k : Nat} (h : a.grownBy b row) (h2 : b.grownBy c (some k)) (hk : a.heap.size ≤ k) : a.grownBy c row :=
  ⟨h2.os.trans h.os, h2.tape.trans h.tape, h2.output.trans h.output, Nat.le_trans h.size h2.size, fun j hj hn => (h2.block j (by have := h.size; omega) (fun e => by cases e; omega)).trans (h.block j hj hn)⟩
/-- A function's end: the result, a struct, is copied out of its variable. -/
theorem fin_row {opa : Array Oper} {o1 o2 : Oper} (ty : TypeId) (p1 p2 x : Operand) (ho1 : o1.op = .load ty p1) (ho2 : o2.op = .store ty p2 x) (g1 : o1.guard = none) (g2 : o2.guard = none)
    (b r : Nat) (cs old : Array Value) (t t2 : TypeId) (hh : w.heap[b]? = some (.cells cs t (0, 0))) (hr : w.heap[r]? = some (.cells old t2 (0, 0))) (hp1 : a.eval p1 = .pointer (some ⟨b, 0, none⟩)) (hp2 : (a.put o1.dst (.agg cs)).eval p2 = .pointer (some ⟨r, 0, none⟩))
    (hx : (a.put o1.dst (.agg cs)).eval x = .agg cs) (d : TypeDesc) (hu : P.underlying ty = some d) (hd : (match d with | .struct _ | .array _ _ => true | _ => false) = true) (hi : (P.info? ty).map (·.size) = some cs.size)
    (hs : old.size = cs.size) (h1 : cs.all (·.oneCell') = true) (hK : Q .normal ((a.put o1.dst (.agg cs)).put o2.dst undef) (w.setRow r cs)) : wpList P opa Q [o1, o2] a w :=
  wpList_load_row g1 ty p1 ho1 b hp1 cs t (0, 0) hh d hu hd hi (wpList_store_row g2 ty p2 x ho2 r hp2 cs old t2 hx hr hi hs h1 (wpList_nil hK))
theorem ret_cell {fn : Func} {R : Ending → World → Prop} {t : Tmp} {ty : TypeId} (h : fn.results = #[.cell t ty]) (b : Nat) (ht : a.tmps.getD t undef = .pointer (some ⟨b, 0, none⟩)) (cs : Array Value) (tt : TypeId) (fr : Nat × Nat)
    (hh : w.heap[b]? = some (.cells cs tt fr)) (d : TypeDesc) (hu : P.underlying ty = some d) (hd : (match d with | .struct _ | .array _ _ => true | _ => false) = true) (hi : (P.info? ty).map (·.size) = some cs.size)
    (hf : a.defers = []) (hR : R (.returned (.agg cs)) w) : bodyPost P fn R .ret a w := by
  have hrun := run_loadVar_row (P := P) w b tt ty cs fr d hh hu hd hi
  refine bodyPost_ret ?_ hf hR
  have ht2 : a.tmps[t]?.getD undef = .pointer (some ⟨b, 0, none⟩) := by simpa using ht
  simp [results, h, ht2, asAddr, hrun, Result.andThen]
end

section
variable {w : World} {ops : Array Oper} {rest : List Oper} {o : Oper} {a : Act} {Q : Exit → Act → World → Prop}
set_option maxRecDepth 100000 in
/-- append of elements that lie in a slice that is read. -/
theorem app_rd (t e : TypeId) (z : Value) (size bytes : Nat) (ht : Tryz.prog.underlying t = some (.slice e)) (hinfo : (Tryz.prog.info? e).map (fun i => (i.zero, i.size, i.bytes)) = some (some z, size, bytes)) (hzs : z.cells.size = size) (hsz : 0 < size) (hby : bytes ≤ 64)
    (hgd : o.guard = none) (s x : Operand) (ho : o.op = .call { callee := .builtin .append, args := #[s, x], argTypes := #[t, t] })
    (base : Nat) (A : Option Addr) (n c : Nat) (xs : List Value) (hown : OR w base e size A n c xs) (hs : a.eval s = .slice A n c)
    (B : Nat) (ad : Addr) (m cc : Nat) (news : List Value) (hx : a.eval x = .slice (some ad) m cc) (hrd : Reads w B size (some ad) m news)
    (h1 : ∀ u ∈ news, u.oneCell' = true) (hn : n + m ≤ 1000000000000) (hbase : base ≤ w.heap.size)
    (hK : ∀ A' c' w', OR w' base e size A' (n + m) c' (xs ++ news) → w.grownBy w' (Value.ownBlock (.slice A n c)) → wpList Tryz.prog ops Q rest (a.put o.dst (.slice A' (n + m) c')) w') :
    wpList Tryz.prog ops Q (o :: rest) a w := by
  obtain ⟨i0, hi, hz0, hz1, hz2⟩ := info_parts hinfo
  have hb : (n + m) * bytes ≤ 140737488355328 := Nat.le_trans (Nat.mul_le_mul_left _ hby) (by omega)
  refine wpList_append_own _ hgd s x t ho base e i0 z size bytes ht hi hz0 hz1 hz2 hzs hsz _ _ _ hs hown ad m cc news hx hrd.1 ?_ h1 (by unfold maxLen; omega) hb hbase ?_
  · intro j u hu
    rcases Nat.eq_zero_or_pos m with h0 | h0
    · subst h0
      have := hrd.1
      rw [Nat.zero_mul] at this
      rw [List.eq_nil_of_length_eq_zero this] at hu
      simp at hu
    · obtain ⟨b, off, e1, _, hc⟩ := hrd.2 h0
      injection e1 with e1
      subst e1
      rw [add_lit]
      exact hc j u hu
  · intro v' w' hown' hgrow _
    obtain ⟨A', c', rfl, h'⟩ := OR.slice_ hown'
    exact hK A' c' w' h' hgrow
end

theorem ints_one (l : List Int) : ∀ u ∈ l.map (Value.int .i64), u.oneCell' = true := by
  intro u hu
  obtain ⟨x, _, rfl⟩ := List.mem_map.1 hu
  rfl
theorem cds_one (l : List Cd) : ∀ u ∈ cdsCells l, u.oneCell' = true := by
  intro u hu
  simp only [cdsCells, List.mem_flatMap] at hu
  obtain ⟨x, _, hu⟩ := hu
  simp [cdCells] at hu
  rcases hu with rfl | rfl | rfl | rfl <;> rfl

set_option maxRecDepth 100000 in
set_option maxHeartbeats 1000000 in
theorem cloneI_c (A : Option Addr) (c : Nat) (l : List Int) (w : World) (hA : RdI w w.heap.size A l) (hl : l.length ≤ 1000000000) (hc : A = none → c = 0) :
    Calls Tryz.prog 40 #[.slice A l.length c] w (fun e w' => ∃ A' c', e = .returned (.slice A' l.length c') ∧ OI w' w.heap.size A' l.length c' l ∧ Below w.heap.size w w') := by
  cases A with
  | none =>
    have hl0 : l = [] := by
      rcases Nat.eq_zero_or_pos l.length with h | h
      · exact List.eq_nil_of_length_eq_zero h
      · obtain ⟨b, off, e, _⟩ := hA.2 (by omega); cases e
    subst hl0
    obtain rfl := hc rfl
    have k1 := fun w' : World => Lib.run_eql_slice_nil (P := Tryz.prog) w' 24 3 none 0 0 0 0 Tryz.underlying24
    go_enter Tryz.func40, Tryz.ntmps40
    go_wp2
    go_ret
    exact ⟨none, 0, rfl, OI.nil_ _ _, (by repeat (first | exact Below.refl _ _ | assumption | refine Below.alloc ?_ (by simp <;> omega) _ | refine Below.setCell ?_ (by simp <;> omega) _ | refine Below.drew ?_))⟩
  | some ad =>
    have k1 := fun w' : World => Lib.run_eql_slice_nil (P := Tryz.prog) w' 24 3 (some ad) l.length c 0 0 Tryz.underlying24
    have ho := Lib.hid (OI.empty_ w w.heap.size (Nat.le_refl _))
    have hA2 := Lib.hid (hA.below ((Below.refl w.heap.size w).alloc (Nat.le_refl _) (.cells #[] 3)))
    go_enter Tryz.func40, Tryz.ntmps40
    go_wp2_with (at_builtin; refine app_rd 24 3 _ 1 8 Tryz.underlying24 infoInt rfl (by decide) (by decide) rfl _ _ rfl w.heap.size _ 0 0 _ ho.out rfl w.heap.size ad l.length c _ rfl hA2.out (ints_one l) ?hn ?hb ?_)
    case hn => omega
    case hb => simp
    intro A' c' w2 ho2 hg2
    clear k1
    go_wp2
    go_ret
    refine ⟨A', c', by simp, ?_, ?_⟩
    · exact ho2
    · exact ((Below.refl w.heap.size w).alloc (Nat.le_refl _) _).grown hg2 (by simp) (fun k hk => by simp [Value.ownBlock] at hk; omega)

set_option maxRecDepth 100000 in
set_option maxHeartbeats 1000000 in
theorem cloneC_c (A : Option Addr) (c : Nat) (l : List Cd) (w : World) (hA : RdC w w.heap.size A l) (hl : l.length ≤ 1000000000) (hc : A = none → c = 0) :
    Calls Tryz.prog 110 #[.slice A l.length c] w (fun e w' => ∃ A' c', e = .returned (.slice A' l.length c') ∧ OC w' w.heap.size A' l.length c' l ∧ Below w.heap.size w w') := by
  cases A with
  | none =>
    have hl0 : l = [] := by
      rcases Nat.eq_zero_or_pos l.length with h | h
      · exact List.eq_nil_of_length_eq_zero h
      · obtain ⟨b, off, e, _⟩ := hA.2 (by omega); cases e
    subst hl0
    obtain rfl := hc rfl
    have k1 := fun w' : World => Lib.run_eql_slice_nil (P := Tryz.prog) w' 23 76 none 0 0 0 0 Tryz.underlying23
    go_enter Tryz.func110, Tryz.ntmps110
    go_wp2
    go_ret
    exact ⟨none, 0, rfl, OC.nil_ _ _, (by repeat (first | exact Below.refl _ _ | assumption | refine Below.alloc ?_ (by simp <;> omega) _ | refine Below.setCell ?_ (by simp <;> omega) _ | refine Below.drew ?_))⟩
  | some ad =>
    have k1 := fun w' : World => Lib.run_eql_slice_nil (P := Tryz.prog) w' 23 76 (some ad) l.length c 0 0 Tryz.underlying23
    have ho := Lib.hid (OC.empty_ w w.heap.size (Nat.le_refl _))
    have hA2 := Lib.hid (hA.below ((Below.refl w.heap.size w).alloc (Nat.le_refl _) (.cells #[] 76)))
    go_enter Tryz.func110, Tryz.ntmps110
    go_wp2_with (at_builtin; refine app_rd 23 76 _ 4 32 Tryz.underlying23 infoCode rfl (by decide) (by decide) rfl _ _ rfl w.heap.size _ 0 0 _ ho.out rfl w.heap.size ad l.length c _ rfl hA2.out (cds_one l) ?hn ?hb ?_)
    case hn => omega
    case hb => simp
    intro A' c' w2 ho2 hg2
    clear k1
    go_wp2
    go_ret
    refine ⟨A', c', by simp, ?_, ?_⟩
    · exact ho2
    · exact ((Below.refl w.heap.size w).alloc (Nat.le_refl _) _).grown hg2 (by simp) (fun k hk => by simp [Value.ownBlock] at hk; omega)

/-- A new row of instructions and a bool are returned. -/
def RetCb (w : World) (l : List Cd) (b : Bool) (e : Ending) (w' : World) : Prop :=
  ∃ A c, e = .returned (.tuple #[.slice A l.length c, .bool b]) ∧ OC w' w.heap.size A l.length c l ∧ Below w.heap.size w w'
theorem RetCb.of {w w' : World} {l : List Cd} {b : Bool} {A : Option Addr} {n c : Nat} (h : OC w' w.heap.size A n c l) (hb : Below w.heap.size w w') : RetCb w l b (.returned (.tuple #[.slice A n c, .bool b])) w' := by
  obtain rfl := OC.len h
  exact ⟨A, c, rfl, h, hb⟩
theorem below_gr {B base e size n c : Nat} {A : Option Addr} {xs : List Value} {w0 w1 w2 : World} (hb : Below B w0 w1) (hB : B ≤ w1.heap.size) (ho : OR w1 base e size A n c xs) (hbase : B ≤ base)
    (hg : w1.grownBy w2 (Value.ownBlock (.slice A n c))) : Below B w0 w2 :=
  hb.grown hg hB (fun k h => Nat.le_trans hbase (ho.block k h).1)
theorem nilC {w : World} {B : Nat} {A : Option Addr} {l : List Cd} (h : RdC w B A l) (e : A = none) : l.length = 0 := by
  subst e
  rcases Nat.eq_zero_or_pos l.length with h0 | h0
  · exact h0
  · obtain ⟨b, off, e, _⟩ := h.2 h0
    cases e
/-- A part of a slice that is read. -/
theorem RdC.sub {w : World} {B b off : Nat} {l : List Cd} (h : RdC w B (some ⟨b, off, none⟩) l) (i n : Nat) (hn : i + n ≤ l.length) : RdC w B (some ⟨b, off + i * 4, none⟩) ((l.drop i).take n) := by
  refine ⟨by rw [cdsCells_length], fun hp => ?_⟩
  have hlen : ((l.drop i).take n).length = n := by simp; omega
  have hl0 : 0 < l.length := by omega
  obtain ⟨b', off', e, hb, hc⟩ := h.2 hl0
  injection e with e
  injection e with e1 e2
  subst e1 e2
  refine ⟨b, off + i * 4, rfl, hb, fun j u hu => ?_⟩
  have hj : j < n * 4 := by
    have := (List.getElem?_eq_some_iff.1 hu).1
    rw [cdsCells_length, hlen] at this
    exact this
  have hk : j / 4 < n := by omega
  have hx : l[i + j / 4]? = some (l[i + j / 4]'(by omega)) := List.getElem?_eq_getElem (by omega)
  have hx2 : ((l.drop i).take n)[j / 4]? = some (l[i + j / 4]'(by omega)) := by
    rw [List.getElem?_take, if_pos hk, List.getElem?_drop, hx]
  have q1 := cdsCells_get _ _ _ hx (j % 4) (Nat.mod_lt _ (by decide))
  have q2 := cdsCells_get _ _ _ hx2 (j % 4) (Nat.mod_lt _ (by decide))
  rw [show j / 4 * 4 + j % 4 = j by omega] at q2
  rw [q2, ← q1] at hu
  have := hc _ u hu
  rw [show off + i * 4 + j = off + ((i + j / 4) * 4 + j % 4) by omega]
  exact this
theorem cdAt_get' {l : List Cd} {k : Nat} (h : k < l.length) : l[k]? = some (cdAt l k) := by
  unfold cdAt
  rw [List.getElem?_eq_getElem h]

section
variable {w : World} {ops : Array Oper} {rest : List Oper} {o : Oper} {a : Act} {Q : Exit → Act → World → Prop}
set_option maxRecDepth 100000 in
/-- append of a slice of instructions that is read. -/
theorem app_cs (hgd : o.guard = none) (s x : Operand) (ho : o.op = .call { callee := .builtin .append, args := #[s, x], argTypes := #[23, 23] })
    (base : Nat) (A : Option Addr) (n c : Nat) (xs : List Cd) (hown : OC w base A n c xs) (hs : a.eval s = .slice A n c)
    (B : Nat) (A2 : Option Addr) (m cc : Nat) (news : List Cd) (hx : a.eval x = .slice A2 m cc) (hm : news.length = m) (hc : A2 = none → cc = 0) (hrd : RdC w B A2 news)
    (hn : n + m ≤ 1000000000000) (hbase : base ≤ w.heap.size)
    (hK : ∀ A' c' w', OC w' base A' (n + m) c' (xs ++ news) → w.grownBy w' (Value.ownBlock (.slice A n c)) → wpList Tryz.prog ops Q rest (a.put o.dst (.slice A' (n + m) c')) w') :
    wpList Tryz.prog ops Q (o :: rest) a w := by
  cases A2 with
  | none =>
    obtain rfl := hc rfl
    have h0 := nilC hrd rfl
    obtain rfl : m = 0 := by omega
    obtain rfl : news = [] := List.eq_nil_of_length_eq_zero h0
    obtain ⟨i0, hi, hz0, hz1, hz2⟩ := info_parts infoCode
    refine wpList_append_own_none hgd s x 23 ho base 76 i0 4 Tryz.underlying23 hi _ _ _ hs hown hx ?_
    exact hK A c w (by simpa using hown) (grown_refl _ _)
  | some ad =>
    subst hm
    refine app_rd 23 76 _ 4 32 Tryz.underlying23 infoCode rfl (by decide) (by decide) hgd s x ho base A n c _ hown hs B ad news.length cc _ hx hrd (cds_one news) hn hbase ?_
    intro A' c' w' h hg
    exact hK A' c' w' (by unfold OC; rw [cdsCells_append]; exact h) hg
end


theorem ofInt_nat64 (a : Nat) (h : a < 2 ^ 64) : (BitVec.ofInt 64 (a : Int)).toNat = a := by
  rw [BitVec.toNat_ofInt]
  omega
theorem wrap64_small (n : Int) (h0 : 0 ≤ n) (h1 : n < 9223372036854775808) : IntKind.i64.wrap n = n := by
  simp [IntKind.wrap, IntKind.bits, IntKind.signed]; omega
theorem bits_or64 (a b : Nat) (ha : a < 4611686018427387904) (hb : b < 4611686018427387904) : bits .or .i64 (a : Int) (b : Int) = ((a ||| b : Nat) : Int) := by
  have h : a ||| b < 2 ^ 62 := Nat.or_lt_two_pow (by simpa using ha) (by simpa using hb)
  show IntKind.i64.wrap ((BitVec.ofInt 64 (a : Int) ||| BitVec.ofInt 64 (b : Int)).toNat : Int) = _
  rw [BitVec.toNat_or, ofInt_nat64 a (by omega), ofInt_nat64 b (by omega)]
  exact wrap64_small _ (by omega) (by omega)
theorem bits_and64 (a b : Nat) (ha : a < 4611686018427387904) (hb : b < 4611686018427387904) : bits .and .i64 (a : Int) (b : Int) = ((a &&& b : Nat) : Int) := by
  have h : a &&& b ≤ a := Nat.and_le_left
  show IntKind.i64.wrap ((BitVec.ofInt 64 (a : Int) &&& BitVec.ofInt 64 (b : Int)).toNat : Int) = _
  rw [BitVec.toNat_and, ofInt_nat64 a (by omega), ofInt_nat64 b (by omega)]
  exact wrap64_small _ (by omega) (by omega)
theorem bits_andNot64 (a b : Nat) (ha : a < 4611686018427387904) (hb : b < 4611686018427387904) : bits .andNot .i64 (a : Int) (b : Int) = ((mdiff a b : Nat) : Int) := by
  have h := mdiff_le a b
  have e : (BitVec.ofInt 64 (a : Int) &&& ~~~BitVec.ofInt 64 (b : Int)).toNat = mdiff a b := by
    apply Nat.eq_of_testBit_eq
    intro i
    rw [testBit_mdiff, BitVec.toNat_and, Nat.testBit_and, ofInt_nat64 a (by omega)]
    by_cases hi : i < 64
    · have : (~~~BitVec.ofInt 64 (b : Int)).toNat.testBit i = !b.testBit i := by
        rw [BitVec.testBit_toNat, BitVec.getLsbD_not, ← BitVec.testBit_toNat, ofInt_nat64 b (by omega)]
        simp [hi]
      rw [this]
    · have : a.testBit i = false := Nat.testBit_lt_two_pow (Nat.lt_of_lt_of_le (show a < 2 ^ 64 by omega) (Nat.pow_le_pow_right (by decide) (by omega)))
      simp [this]
  show IntKind.i64.wrap ((BitVec.ofInt 64 (a : Int) &&& ~~~BitVec.ofInt 64 (b : Int)).toNat : Int) = _
  rw [e]
  exact wrap64_small _ (by omega) (by omega)
theorem wrap64_pow (k : Nat) (hk : k ≤ 61) : wrap64 (2 ^ k) = ((2 ^ k : Nat) : Int) := by
  have h : 2 ^ k ≤ 2 ^ 61 := Nat.pow_le_pow_right (by decide) hk
  have e : ((2 : Int) ^ k) = ((2 ^ k : Nat) : Int) := by simp
  obtain ⟨m, hm⟩ : ∃ m, 2 ^ k = m := ⟨_, rfl⟩
  rw [hm] at h e ⊢
  unfold wrap64
  rw [e]
  omega
theorem pow_small (k : Nat) (hk : k ≤ 61) : 2 ^ k < 4611686018427387904 := by
  have h : 2 ^ k ≤ 2 ^ 61 := Nat.pow_le_pow_right (by decide) hk
  omega
/-- 'mask | 1 << k', as the walk has it. -/
theorem or_bit (a k : Nat) (ha : a < 4611686018427387904) (hk : k ≤ 61) : bits .or .i64 (a : Int) (wrap64 (2 ^ k)) = ((a ||| 2 ^ k : Nat) : Int) := by
  rw [wrap64_pow k hk, bits_or64 a _ ha (pow_small k hk)]

theorem shr_cast (u r : Nat) : ((u : Int) / 2 ^ r) = ((u >>> r : Nat) : Int) := by
  rw [Nat.shiftRight_eq_div_pow]
  simp
theorem bit_and (u r : Nat) (hu : u < 65536) : bits .and .i64 ((u : Int) / 2 ^ r) 1 = (((u >>> r) % 2 : Nat) : Int) := by
  have h : u >>> r ≤ u := Nat.shiftRight_le u r
  rw [shr_cast, show (1 : Int) = ((1 : Nat) : Int) from rfl, bits_and64 _ _ (by omega) (by omega), Nat.and_one_is_mod]

theorem sMaskAll_c (n : Int) (w : World) :
    Calls Tryz.prog 35 #[.int .i64 n] w fun e w' => e = .returned (.int .i64 (maskAllI n)) ∧ w = w' := by
  cases h : inR n 1 8 with
  | false =>
    go_enter Tryz.func35, Tryz.ntmps35
    go_wp2_with (go_at_call 33; refine (l1In_c _ _ _ _).mono ?_; rintro e w' ⟨rfl, rfl⟩)
    go_ret
    exact ⟨reti (by simp [maskAllI, h]), rfl⟩
  | true =>
    have h' := inR_iff.1 h
    have h8 : n = 1 ∨ n = 2 ∨ n = 3 ∨ n = 4 ∨ n = 5 ∨ n = 6 ∨ n = 7 ∨ n = 8 := by omega
    clear h h'
    rcases h8 with rfl | rfl | rfl | rfl | rfl | rfl | rfl | rfl
    all_goals
      go_enter Tryz.func35, Tryz.ntmps35
      go_wp2_with (go_at_call 33; refine (l1In_c _ _ _ _).mono ?_; rintro e w' ⟨rfl, rfl⟩)
      go_ret
      exact ⟨reti (by decide), rfl⟩

def MORel (xs : List Int) (n : Int) (mv iv : Value) : Prop :=
  ∃ k : Nat, k ≤ xs.length ∧ iv = .int .i64 k ∧ mv = .int .i64 (orBits (xs.take k)) ∧ allIn (xs.take k) n = true

set_option maxHeartbeats 1000000 in
theorem sMaskOf_c (A : Option Addr) (c : Nat) (xs : List Int) (n : Int) (w : World) (hA : RdI w w.heap.size A xs) (hl : xs.length ≤ 1000000000) :
    Calls Tryz.prog 34 #[.slice A xs.length c, .int .i64 n] w fun e w' => e = .returned (.int .i64 (maskOfI xs n)) ∧ w = w' := by
  cases hn : inR n 1 8 with
  | false =>
    go_enter Tryz.func34, Tryz.ntmps34
    go_wp2_with (go_at_call 33; refine (l1In_c _ _ _ _).mono ?_; rintro e w' ⟨rfl, rfl⟩)
    go_ret
    exact ⟨reti (by simp [maskOfI, hn]), rfl⟩
  | true =>
    have hn' := inR_iff.1 hn
    obtain ⟨n1, n8⟩ := hn'
    go_enter Tryz.func34, Tryz.ntmps34
    go_wp2_with (go_at_call 33; refine (l1In_c _ _ _ _).mono ?_; rintro e w' ⟨rfl, rfl⟩)
    have HN := Lib.hid hn
    clear hn
    go_loop [5, 6] (fun mv iv => MORel xs n mv iv) (fun _ i => xs.length - (intOf i).toNat)
    case atStart => exact ⟨0, Nat.zero_le _, rfl, rfl, rfl⟩
    case round =>
      obtain ⟨k, hk, rfl, rfl, hall⟩ := hrel
      by_cases hlt : k < xs.length
      · obtain ⟨b, off, x, rfl, hb, hx, hc⟩ := hA.at_ hlt
        have hm := orBits_lt n8 hall
        have HA := Lib.hid hall
        have HO := Lib.hid (orBits_take hx)
        have HT := Lib.hid (allIn_take (n := n) hx)
        have HX := Lib.hid hx
        generalize orBits (xs.take k) = m at *
        clear hall hx
        cases hr : inR x 0 (n - 1) with
        | false =>
          have HF := Lib.hid (allIn_bad HX.out hr)
          go_wp2_with (go_at_call 33; refine (l1In_c _ _ _ _).mono ?_; rintro e w' ⟨rfl, rfl⟩)
          go_ret
          exact ⟨reti (by simp [maskOfI, HF.out]), rfl⟩
        | true =>
          obtain ⟨x1, x2⟩ := inR_iff.1 hr
          obtain ⟨y, rfl⟩ := Int.eq_ofNat_of_zero_le x1
          have HR := Lib.hid hr
          have y7 : y ≤ 7 := by omega
          go_wp2_with (go_at_call 33; refine (l1In_c _ _ _ _).mono ?_; rintro e w' ⟨rfl, rfl⟩)
          go_round
          case rel =>
            have ho := HO.out
            rw [Int.toNat_natCast] at ho
            exact ⟨k + 1, by omega, by go_num, by rw [ho, or_bit _ _ (by omega) (by omega)], by rw [HT.out, HA.out, HR.out]; rfl⟩
          case measure => simp [intOf]; omega
      · obtain rfl : k = xs.length := by omega
        rw [List.take_length] at hall ⊢
        have HA := Lib.hid hall
        clear hall
        go_wp2
        go_ret
        exact ⟨reti (by simp [maskOfI, HN.out, HA.out]), rfl⟩

end Go.Proofs.YtelbfeidpcojmaaGreat
