/- Words for memory: slices that read as lists, rows of the call's own, what is kept. -/
import Derived.Test.YtfgbbajkdpideaaProg
import Derived.Test.YtfgbbajkdpideaaSyn
import Derived.WalkKit
import Derived.Outline
import Derived.Handy
import Derived.Lib.Hide
import Derived.WalkSmall
import Derived.OneCell
import Derived.Deep.AppendLies
import Derived.Deep.Draws
import Derived.BigQuiet
import Derived.Deep.QuietTactic
namespace Go.Proofs.Ytfgbbajkdpideaa
open Go.RowKit
set_option linter.unusedVariables false
set_option linter.unusedSimpArgs false

theorem retb {a b : Bool} (h : a = b) : Ending.returned (.bool a) = .returned (.bool b) := by rw [h]
theorem reti {a b : Int} (h : a = b) : Ending.returned (.int .i64 a) = .returned (.int .i64 b) := by rw [h]

theorem block_of_add (a : Addr) (n : Nat) : (a.add n).block = a.block := by unfold Addr.add; split <;> rfl
theorem add_of_add (a : Addr) (i j : Nat) : (a.add i).add j = a.add (i + j) := by
  unfold Addr.add
  by_cases hi : i = 0 <;> by_cases hj : j = 0 <;> simp [hi, hj, Nat.add_assoc]
theorem add_lit (b o i : Nat) : (⟨b, o, none⟩ : Addr).add i = ⟨b, o + i, none⟩ := by
  unfold Addr.add
  split <;> simp_all

/-- A slice of n elements (of 'size' cells each) at A reads as the cells xs, in a block below B. -/
def Reads (w : World) (B size : Nat) (A : Option Addr) (n : Nat) (xs : List Value) : Prop :=
  xs.length = n * size ∧ (0 < n → ∃ b off, A = some ⟨b, off, none⟩ ∧ b < B ∧ ∀ j u, xs[j]? = some u → w.cell? ⟨b, off + j, none⟩ = some u)

section
variable {w w' : World} {B B' size n : Nat} {A : Option Addr} {xs : List Value}
theorem Reads.none_ : Reads w B size A 0 [] := ⟨by simp, fun h => absurd h (by omega)⟩
theorem Reads.keep (h : Reads w B size A n xs) (hk : ∀ p : Addr, p.block < B → w'.cell? p = w.cell? p) : Reads w' B size A n xs :=
  ⟨h.1, fun hn => by
    obtain ⟨b, off, e, hb, hc⟩ := h.2 hn
    exact ⟨b, off, e, hb, fun j u hu => (hk _ hb).trans (hc j u hu)⟩⟩
theorem Reads.more (h : Reads w B size A n xs) (hB : B ≤ B') : Reads w B' size A n xs :=
  ⟨h.1, fun hn => by
    obtain ⟨b, off, e, hb, hc⟩ := h.2 hn
    exact ⟨b, off, e, by omega, hc⟩⟩
theorem Reads.below (h : Reads w B size A n xs) (hb : Below B w w') : Reads w' B size A n xs := h.keep fun _ hp => hb.cell hp
theorem Reads.of_own {base : Nat} {e : TypeId} {c : Nat} (h : w.ownsRow base e size (.slice A n c) n xs) : Reads w w.heap.size size A n xs := by
  refine ⟨h.1, fun hn => ?_⟩
  obtain ⟨g, cap, hv, _, hlt⟩ := h.form hn
  have hA : A = some ⟨g, 0, none⟩ := by injection hv
  subst hA
  exact ⟨g, 0, rfl, hlt, fun j u hu => by rw [← add_lit]; exact h.cells (g := g) rfl j u hu⟩
end

theorem cell_kept {w w1 : World} {a : Addr} {v : Value} (hb : Below w.heap.size w w1) (h : w.cell? a = some v) : w1.cell? a = some v := (hb.cell (World.block_lt_of_cell? w a h)).trans h
theorem below_trans {B : Nat} {w w1 w2 : World} (h : Below B w w1) (hB : B ≤ w.heap.size) (h2 : Below w1.heap.size w1 w2) : Below B w w2 := h.trans (h2.mono (Nat.le_trans hB h.size))

/-! ### Types' rows of the table -/
theorem infoInt : (Try.prog.info? 3).map (fun i => (i.zero, i.size, i.bytes)) = some (some (.int .i64 0), 1, 8) := by kernel_rfl
theorem infoCode : (Try.prog.info? 50).map (fun i => (i.zero, i.size, i.bytes)) = some (some (.agg #[.int .i64 0, .int .i64 0, .int .i64 0, .int .i64 0]), 4, 32) := by kernel_rfl

theorem run_make_rowN {P : Program} (t e : TypeId) (i : TypeInfo) (z : Value) (ht : P.underlying t = some (.slice e)) (hi : P.info? e = some i) (hz : i.zero = some z)
    (kl kc : IntKind) (n c : Nat) (hnc : n ≤ c) (hbytes : i.bytes * c ≤ 281474976710656) (h63 : c ≤ 9223372036854775807) (w : World) :
    (Instr.makeSlice t (.int kl (n : Int)) (.int kc (c : Int))).run P w = .ok (.slice (some ⟨w.heap.size, 0, none⟩) n c) (w.alloc (.cells (madeCells z.cells (c * i.size)) e)) := by
  have hb : (i.bytes : Int) * (c : Int) ≤ 281474976710656 := by
    have h : ((i.bytes * c : Nat) : Int) ≤ 281474976710656 := by omega
    rwa [Int.natCast_mul] at h
  have hr := run_make (P := P) w t e i z ht hi hz kl kc n c (by omega) (by omega) hb (by omega)
  simp only [Int.toNat_natCast] at hr
  exact hr

/-- What a new row of n elements holds. -/
def zeroRow (z : Value) (m : Nat) : Array Value := madeCells z.cells m
theorem zeroRow_size (z : Value) (m : Nat) : (zeroRow z m).size = m := size_madeCells _ _
theorem make_int (n : Nat) (hn : n ≤ 1000000000000) (w : World) :
    (Instr.makeSlice 27 (.int .i64 (n : Int)) (.int .i64 (n : Int))).run Try.prog w = .ok (.slice (some ⟨w.heap.size, 0, none⟩) n n) (w.alloc (.cells (zeroRow (.int .i64 0) n) 3)) := by
  obtain ⟨i0, hi, hz0, hz1, hz2⟩ := info_parts infoInt
  have := run_make_rowN (P := Try.prog) 27 3 i0 _ Try.underlying27 hi hz0 .i64 .i64 n n (Nat.le_refl _) (by rw [hz2]; omega) (by omega) w
  rw [hz1, Nat.mul_one] at this
  exact this
theorem make_code (n : Nat) (hn : n ≤ 1000000000000) (w : World) :
    (Instr.makeSlice 23 (.int .i64 (n : Int)) (.int .i64 (n : Int))).run Try.prog w = .ok (.slice (some ⟨w.heap.size, 0, none⟩) n n) (w.alloc (.cells (zeroRow (.agg #[.int .i64 0, .int .i64 0, .int .i64 0, .int .i64 0]) (n * 4)) 50)) := by
  obtain ⟨i0, hi, hz0, hz1, hz2⟩ := info_parts infoCode
  have := run_make_rowN (P := Try.prog) 23 50 i0 _ Try.underlying23 hi hz0 .i64 .i64 n n (Nat.le_refl _) (by rw [hz2]; omega) (by omega) w
  rw [hz1] at this
  exact this

/-! ### Lists of instructions -/
def cdCells (x : Cd) : List Value := [.int .i64 x.op, .int .i64 x.a, .int .i64 x.b, .int .i64 x.c]
def cdsCells (l : List Cd) : List Value := l.flatMap cdCells
def Cd.val (x : Cd) : Value := .agg #[.int .i64 x.op, .int .i64 x.a, .int .i64 x.b, .int .i64 x.c]

theorem cdsCells_length (l : List Cd) : (cdsCells l).length = l.length * 4 := by
  induction l with
  | nil => rfl
  | cons x l ih => simp only [cdsCells, List.flatMap_cons, List.length_append, List.length_cons] at ih ⊢; rw [ih]; simp [cdCells]; omega

theorem cdsCells_get (l : List Cd) : ∀ (k : Nat) (x : Cd), l[k]? = some x → ∀ j, j < 4 → (cdsCells l)[k * 4 + j]? = (cdCells x)[j]? := by
  induction l with
  | nil => intro k x h; simp at h
  | cons y l ih =>
    intro k x h j hj
    cases k with
    | zero =>
      simp at h
      subst h
      simp only [cdsCells, List.flatMap_cons, Nat.zero_mul, Nat.zero_add]
      rw [List.getElem?_append_left (by simpa [cdCells] using hj)]
    | succ k =>
      simp only [List.getElem?_cons_succ] at h
      have := ih k x h j hj
      simp only [cdsCells, List.flatMap_cons]
      rw [List.getElem?_append_right (by simp [cdCells]; omega)]
      rw [← this]
      congr 1
      simp [cdCells]
      omega

theorem cdsCells_append (l m : List Cd) : cdsCells (l ++ m) = cdsCells l ++ cdsCells m := by simp [cdsCells]

/-- The slice at A reads as a program. -/
def RdC (w : World) (B : Nat) (A : Option Addr) (l : List Cd) : Prop := Reads w B 4 A l.length (cdsCells l)
/-- The slice at A reads as numbers. -/
def RdI (w : World) (B : Nat) (A : Option Addr) (l : List Int) : Prop := Reads w B 1 A l.length (l.map (.int .i64))

section
variable {w w' : World} {B B' : Nat} {A : Option Addr} {l : List Cd} {xs : List Int}
theorem RdC.below (h : RdC w B A l) (hb : Below B w w') : RdC w' B A l := Reads.below h hb
theorem RdC.more (h : RdC w B A l) (hB : B ≤ B') : RdC w B' A l := Reads.more h hB
theorem RdI.below (h : RdI w B A xs) (hb : Below B w w') : RdI w' B A xs := Reads.below h hb
theorem RdI.more (h : RdI w B A xs) (hB : B ≤ B') : RdI w B' A xs := Reads.more h hB
theorem RdC.at_ (h : RdC w B A l) {k : Nat} (hk : k < l.length) :
    ∃ b off x, A = some ⟨b, off, none⟩ ∧ b < B ∧ l[k]? = some x ∧
      w.cell? ⟨b, off + k * 4, none⟩ = some (.int .i64 x.op) ∧ w.cell? ⟨b, off + k * 4 + 1, none⟩ = some (.int .i64 x.a) ∧
      w.cell? ⟨b, off + k * 4 + 2, none⟩ = some (.int .i64 x.b) ∧ w.cell? ⟨b, off + k * 4 + 3, none⟩ = some (.int .i64 x.c) := by
  obtain ⟨b, off, e, hb, hc⟩ := h.2 (by omega)
  have hx : l[k]? = some l[k] := List.getElem?_eq_getElem hk
  have g := cdsCells_get l k _ hx
  exact ⟨b, off, l[k], e, hb, hx, hc (k * 4) _ (g 0 (by omega)), hc (k * 4 + 1) _ (g 1 (by omega)), hc (k * 4 + 2) _ (g 2 (by omega)), hc (k * 4 + 3) _ (g 3 (by omega))⟩
theorem RdI.at_ (h : RdI w B A xs) {k : Nat} (hk : k < xs.length) :
    ∃ b off x, A = some ⟨b, off, none⟩ ∧ b < B ∧ xs[k]? = some x ∧ w.cell? ⟨b, off + k, none⟩ = some (.int .i64 x) := by
  obtain ⟨b, off, e, hb, hc⟩ := h.2 (by omega)
  exact ⟨b, off, xs[k], e, hb, List.getElem?_eq_getElem hk, hc k _ (by simp [hk])⟩
end

/-! ### Rows of the call's own -/
def OR (w : World) (base : Nat) (e : TypeId) (size : Nat) (A : Option Addr) (n c : Nat) (xs : List Value) : Prop := w.ownsRow base e size (.slice A n c) n xs
def OI (w : World) (base : Nat) (A : Option Addr) (n c : Nat) (xs : List Int) : Prop := OR w base 3 1 A n c (xs.map (.int .i64))
def OC (w : World) (base : Nat) (A : Option Addr) (n c : Nat) (l : List Cd) : Prop := OR w base 50 4 A n c (cdsCells l)

section
variable {w w' : World} {base e size n c : Nat} {A : Option Addr} {xs : List Value}
theorem OR.nil_ (w : World) (base e size : Nat) : OR w base e size none 0 0 [] := World.ownsRow_nil _ _ _ _
theorem OR.len (h : OR w base e size A n c xs) : xs.length = n * size := h.1
theorem OR.slice_ {v : Value} (h : w.ownsRow base e size v n xs) : ∃ A c, v = .slice A n c ∧ OR w base e size A n c xs := by
  rcases h.2 with ⟨rfl, rfl⟩ | ⟨g, cap, cur, rfl, _⟩
  · exact ⟨none, 0, rfl, h⟩
  · exact ⟨_, _, rfl, h⟩
theorem OR.alloc (h : OR w base e size A n c xs) (o : Obj) : OR (w.alloc o) base e size A n c xs := World.ownsRow.alloc h o
theorem OR.drew (h : OR w base e size A n c xs) : OR w.drew base e size A n c xs := h
theorem OR.block (h : OR w base e size A n c xs) : ∀ k, Value.ownBlock (.slice A n c) = some k → base ≤ k ∧ k < w.heap.size := World.ownsRow.lt h
theorem OR.keep (h : OR w base e size A n c xs) (hk : ∀ k, k < w.heap.size → base ≤ k → w'.heap[k]? = w.heap[k]?) : OR w' base e size A n c xs := by
  refine ⟨h.1, ?_⟩
  rcases h.2 with hn | ⟨g, cap, cur, hv, hb, hg, r⟩
  · exact .inl hn
  · exact .inr ⟨g, cap, cur, hv, hb, by rw [hk g (Array.getElem?_eq_some_iff.1 hg).1 hb]; exact hg, r⟩
theorem OR.below {B : Nat} (h : OR w base e size A n c xs) (hb : Below B w w') (hB : w.heap.size ≤ B) : OR w' base e size A n c xs :=
  h.keep fun k hk _ => hb.block k (by omega)
theorem OR.kept {row : Option Nat} (h : OR w base e size A n c xs) (hg : w.grownBy w' row) (hne : Value.ownBlock (.slice A n c) = none ∨ Value.ownBlock (.slice A n c) ≠ row) : OR w' base e size A n c xs := World.ownsRow.kept h hg hne
theorem OR.reads (h : OR w base e size A n c xs) : Reads w w.heap.size size A n xs := Reads.of_own h
theorem OR.mono {base' : Nat} (h : OR w base e size A n c xs) (hb : base' ≤ base) : OR w base' e size A n c xs := by
  refine ⟨h.1, ?_⟩
  rcases h.2 with hn | ⟨g, cap, cur, hv, hbg, r⟩
  · exact .inl hn
  · exact .inr ⟨g, cap, cur, hv, by omega, r⟩
theorem OR.at_ (h : OR w base e size A n c xs) (hn : 0 < n) : ∃ g, A = some ⟨g, 0, none⟩ ∧ base ≤ g ∧ g < w.heap.size ∧
    (∀ j u, xs[j]? = some u → w.cell? ⟨g, j, none⟩ = some u) ∧ (∀ j, w.frozen? ⟨g, j, none⟩ = false) ∧
    (∀ j u, OR (w.setCell ⟨g, j, none⟩ u) base e size A n c (xs.set j u)) := by
  obtain ⟨g, cap, hv, hb, hlt⟩ := World.ownsRow.form h hn
  have hA : A = some ⟨g, 0, none⟩ := by injection hv
  subst hA
  refine ⟨g, rfl, hb, hlt, fun j u hu => ?_, fun j => World.ownsRow.frozenAt h j, fun j u => (World.ownsRow.stored h j u).1⟩
  have := World.ownsRow.cells h (g := g) rfl j u hu
  rwa [add_lit, Nat.zero_add] at this
theorem OR.at0 {g : Nat} (h : OR w base e size (some ⟨g, 0, none⟩) n c xs) :
    (∀ j u, xs[j]? = some u → w.cell? ⟨g, j, none⟩ = some u) ∧ (∀ j, w.frozen? ⟨g, j, none⟩ = false) ∧
    (∀ j u, OR (w.setCell ⟨g, j, none⟩ u) base e size (some ⟨g, 0, none⟩) n c (xs.set j u)) := by
  refine ⟨fun j u hu => ?_, fun j => World.ownsRow.frozenAt h j, fun j u => (World.ownsRow.stored h j u).1⟩
  have := World.ownsRow.cells h (g := g) rfl j u hu
  rwa [add_lit, Nat.zero_add] at this
theorem OR.some_cell {g : Nat} (h : OR w base e size (some ⟨g, 0, none⟩) n c xs) (j : Nat) (hj : j < n * size) : ∃ u, w.cell? ⟨g, j, none⟩ = some u :=
  ⟨_, (OR.at0 h).1 j (xs[j]'(by rw [h.1]; exact hj)) (List.getElem?_eq_getElem (by rw [h.1]; exact hj))⟩
theorem OR.base_le {g : Nat} (h : OR w base e size (some ⟨g, 0, none⟩) n c xs) : base ≤ g ∧ g < w.heap.size := OR.block h g rfl
theorem OR.take_ (h : OR w base e size A n c xs) {m : Nat} (hm : m ≤ n) : OR w base e size A m c (xs.take (m * size)) := by
  have hl : (xs.take (m * size)).length = m * size := by
    rw [List.length_take, h.1]
    exact Nat.min_eq_left (Nat.mul_le_mul_right _ hm)
  refine ⟨hl, ?_⟩
  rcases h.2 with ⟨hv, rfl⟩ | ⟨g, cap, cur, hv, hb, hg, hnc, hcm, hcs, ht⟩
  · injection hv with hA _ hc
    subst hA hc
    have : m = 0 := by omega
    subst this
    exact .inl ⟨rfl, rfl⟩
  · injection hv with hA _ hc
    subst hA hc
    refine .inr ⟨g, c, cur, rfl, hb, hg, by omega, hcm, hcs, ?_⟩
    rw [← ht, List.take_take, Nat.min_eq_left (Nat.mul_le_mul_right _ hm)]
theorem OR.lit (w : World) (base e size n : Nat) (cs : Array Value) (hb : base ≤ w.heap.size) (hm : n ≤ 1000000000000) (hs : cs.size = n * size) :
    OR (w.alloc (.cells cs e)) base e size (some ⟨w.heap.size, 0, none⟩) n n cs.toList := World.ownsRow_lit w cs n hb (by unfold maxLen; omega) hs
end

/-- The cells of a new row of one element lie at its block. -/
theorem one_row {w : World} {g : Nat} {cs : List Value} (hc : ∀ j u, cs[j]? = some u → w.cell? ⟨g, j, none⟩ = some u) : ∀ j u, cs[j]? = some u → w.cell? ((⟨g, 0, none⟩ : Addr).add j) = some u := by
  intro j u hu
  rw [add_lit, Nat.zero_add]
  exact hc j u hu

section
variable {w : World} {ops : Array Oper} {rest : List Oper} {o : Oper} {a : Act} {Q : Exit → Act → World → Prop}
/-- append of elements that lie in a row. -/
theorem app_row (t e : TypeId) (z : Value) (size bytes : Nat) (ht : Try.prog.underlying t = some (.slice e)) (hinfo : (Try.prog.info? e).map (fun i => (i.zero, i.size, i.bytes)) = some (some z, size, bytes)) (hzs : z.cells.size = size) (hsz : 0 < size) (hby : bytes ≤ 64)
    (hgd : o.guard = none) (s x : Operand) (ho : o.op = .call { callee := .builtin .append, args := #[s, x], argTypes := #[t, t] })
    (base : Nat) (A : Option Addr) (n c : Nat) (xs : List Value) (hown : OR w base e size A n c xs) (hs : a.eval s = .slice A n c)
    (g m cc : Nat) (news : List Value) (hx : a.eval x = .slice (some ⟨g, 0, none⟩) m cc) (hl : news.length = m * size) (hc : ∀ j u, news[j]? = some u → w.cell? ⟨g, j, none⟩ = some u)
    (h1 : ∀ u ∈ news, u.oneCell' = true) (hn : n + m ≤ 1000000000000) (hbase : base ≤ w.heap.size)
    (hK : ∀ A' c' w', OR w' base e size A' (n + m) c' (xs ++ news) → w.grownBy w' (Value.ownBlock (.slice A n c)) → wpList Try.prog ops Q rest (a.put o.dst (.slice A' (n + m) c')) w') :
    wpList Try.prog ops Q (o :: rest) a w := by
  obtain ⟨i0, hi, hz0, hz1, hz2⟩ := info_parts hinfo
  have hb : (n + m) * bytes ≤ 140737488355328 := Nat.le_trans (Nat.mul_le_mul_left _ hby) (by omega)
  refine wpList_append_own _ hgd s x t ho base e i0 z size bytes ht hi hz0 hz1 hz2 hzs hsz _ _ _ hs hown ⟨g, 0, none⟩ m cc news hx hl (one_row hc) h1 (by unfold maxLen; omega) hb hbase ?_
  intro v' w' hown' hgrow _
  obtain ⟨A', c', rfl, h'⟩ := OR.slice_ hown'
  exact hK A' c' w' h' hgrow

theorem app_int (hgd : o.guard = none) (s x : Operand) (ho : o.op = .call { callee := .builtin .append, args := #[s, x], argTypes := #[27, 27] })
    (base : Nat) (A : Option Addr) (n c : Nat) (xs : List Int) (hown : OI w base A n c xs) (hs : a.eval s = .slice A n c)
    (y : Int) (g cc : Nat) (hx : a.eval x = .slice (some ⟨g, 0, none⟩) 1 cc) (hc : w.cell? ⟨g, 0, none⟩ = some (.int .i64 y)) (hn : n < 1000000000000) (hbase : base ≤ w.heap.size)
    (hK : ∀ A' c' w', OI w' base A' (n + 1) c' (xs ++ [y]) → w.grownBy w' (Value.ownBlock (.slice A n c)) → wpList Try.prog ops Q rest (a.put o.dst (.slice A' (n + 1) c')) w') :
    wpList Try.prog ops Q (o :: rest) a w :=
  app_row 27 3 _ 1 8 Try.underlying27 infoInt rfl (by decide) (by decide) hgd s x ho base A n c _ hown hs g 1 cc [.int .i64 y] hx rfl
    (by
      intro j u hu
      match j, hu with
      | 0, hu => simp at hu; subst hu; exact hc)
    (by intro u hu; simp at hu; subst hu; rfl) (by omega) hbase
    (fun A' c' w' h hg => hK A' c' w' (by unfold OI; rw [List.map_append]; exact h) hg)

theorem app_code (hgd : o.guard = none) (s x : Operand) (ho : o.op = .call { callee := .builtin .append, args := #[s, x], argTypes := #[23, 23] })
    (base : Nat) (A : Option Addr) (n c : Nat) (l : List Cd) (hown : OC w base A n c l) (hs : a.eval s = .slice A n c)
    (y : Cd) (g cc : Nat) (hx : a.eval x = .slice (some ⟨g, 0, none⟩) 1 cc)
    (h0 : w.cell? ⟨g, 0, none⟩ = some (.int .i64 y.op)) (h1 : w.cell? ⟨g, 1, none⟩ = some (.int .i64 y.a)) (h2 : w.cell? ⟨g, 2, none⟩ = some (.int .i64 y.b)) (h3 : w.cell? ⟨g, 3, none⟩ = some (.int .i64 y.c))
    (hn : n < 1000000000000) (hbase : base ≤ w.heap.size)
    (hK : ∀ A' c' w', OC w' base A' (n + 1) c' (l ++ [y]) → w.grownBy w' (Value.ownBlock (.slice A n c)) → wpList Try.prog ops Q rest (a.put o.dst (.slice A' (n + 1) c')) w') :
    wpList Try.prog ops Q (o :: rest) a w :=
  app_row 23 50 _ 4 32 Try.underlying23 infoCode rfl (by decide) (by decide) hgd s x ho base A n c _ hown hs g 1 cc (cdCells y) hx rfl
    (by
      intro j u hu
      match j, hu with
      | 0, hu => simp [cdCells] at hu; subst hu; exact h0
      | 1, hu => simp [cdCells] at hu; subst hu; exact h1
      | 2, hu => simp [cdCells] at hu; subst hu; exact h2
      | 3, hu => simp [cdCells] at hu; subst hu; exact h3)
    (by intro u hu; simp [cdCells] at hu; rcases hu with rfl | rfl | rfl | rfl <;> rfl) (by omega) hbase
    (fun A' c' w' h hg => hK A' c' w' (by unfold OC; rw [cdsCells_append]; simpa [cdsCells] using h) hg)
end

theorem within_c (x lo hi : Int) (w : World) :
    Calls Try.prog 33 #[.int .i64 x, .int .i64 lo, .int .i64 hi] w fun e w' => e = .returned (.bool (inR x lo hi)) ∧ w = w' := by
  by_cases h : lo ≤ x <;> by_cases h2 : x ≤ hi
  all_goals
    go_enter Try.func33, Try.ntmps33
    go_wp2
    go_ret
    exact ⟨by simp [inR, h, h2], rfl⟩

theorem l1In_c (x lo hi : Int) (w : World) :
    Calls Try.prog 51 #[.int .i64 x, .int .i64 lo, .int .i64 hi] w fun e w' => e = .returned (.bool (inR x lo hi)) ∧ w = w' := by
  by_cases h : lo ≤ x <;> by_cases h2 : x ≤ hi
  all_goals
    go_enter Try.func51, Try.ntmps51
    go_wp2
    go_ret
    exact ⟨by simp [inR, h, h2], rfl⟩

theorem isLanes_c (x : Int) (w : World) :
    Calls Try.prog 42 #[.int .i64 x] w fun e w' => e = .returned (.bool (inR x 1 8)) ∧ w = w' := by
  go_enter Try.func42, Try.ntmps42
  go_wp2_with (go_at_call 33; refine (within_c _ _ _ _).mono ?_; rintro e w' ⟨rfl, rfl⟩)
  go_ret
  exact ⟨rfl, rfl⟩

theorem isWord_c (x : Int) (w : World) :
    Calls Try.prog 56 #[.int .i64 x] w fun e w' => e = .returned (.bool (inR x 0 255)) ∧ w = w' := by
  go_enter Try.func56, Try.ntmps56
  go_wp2_with (go_at_call 33; refine (within_c _ _ _ _).mono ?_; rintro e w' ⟨rfl, rfl⟩)
  go_ret
  exact ⟨rfl, rfl⟩

theorem isReg_c (x : Int) (w : World) :
    Calls Try.prog 55 #[.int .i64 x] w fun e w' => e = .returned (.bool (inR x 0 3)) ∧ w = w' := by
  go_enter Try.func55, Try.ntmps55
  go_wp2_with (go_at_call 33; refine (within_c _ _ _ _).mono ?_; rintro e w' ⟨rfl, rfl⟩)
  go_ret
  exact ⟨rfl, rfl⟩

theorem l2Word_c (x : Int) (w : World) :
    Calls Try.prog 53 #[.int .i64 x] w fun e w' => e = .returned (.bool (inR x 0 255)) ∧ w = w' := by
  go_enter Try.func53, Try.ntmps53
  go_wp2_with (go_at_call 51; refine (l1In_c _ _ _ _).mono ?_; rintro e w' ⟨rfl, rfl⟩)
  go_ret
  exact ⟨rfl, rfl⟩

theorem registers_c (o : Int) (w : World) :
    Calls Try.prog 54 #[.int .i64 o] w fun e w' => e = .returned (.int .i64 (regsN o)) ∧ w = w' := by
  go_enter Try.func54, Try.ntmps54
  go_wp2
  all_goals go_ret
  all_goals refine ⟨reti ?_, rfl⟩
  all_goals (unfold regsN; simp_all)

theorem infoRows : (Try.prog.info? 27).map (fun i => (i.zero, i.size, i.bytes)) = some (some (.slice none 0 0), 1, 24) := by kernel_rfl

theorem infoBeat : (Try.prog.info? 56).map (fun i => (i.zero, i.size, i.bytes)) = some (some (.agg #[.int .i64 0, .int .i64 0]), 2, 16) := by kernel_rfl

theorem infoAcc : (Try.prog.info? 98).map (fun i => (i.zero, i.size, i.bytes)) = some (some (.agg #[.int .i64 0, .int .i64 0, .bool false, .int .i64 0]), 4, 32) := by kernel_rfl

theorem infoLane : (Try.prog.info? 128).map (fun i => (i.zero, i.size, i.bytes)) = some (some (.agg #[.slice none 0 0, .int .i64 0, .slice none 0 0, .bool false]), 4, 64) := by kernel_rfl

end Go.Proofs.Ytfgbbajkdpideaa
