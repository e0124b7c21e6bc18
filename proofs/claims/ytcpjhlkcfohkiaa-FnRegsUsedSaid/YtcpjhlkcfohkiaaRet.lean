/- Posts of functions that return new rows; more words for memory. -/
import Derived.Test.YtcpjhlkcfohkiaaMem2
import Derived.Deep.Cut
namespace Go.Proofs.Ytcpjhlkcfohkiaa
open Go.RowKit
set_option linter.unusedVariables false
set_option linter.unusedSimpArgs false

theorem RdC.at0 {w : World} {B b off : Nat} {l : List Cd} (h : RdC w B (some ⟨b, off, none⟩) l) {k : Nat} {x : Cd} (hx : l[k]? = some x) :
    b < B ∧ w.cell? ⟨b, off + k * 4, none⟩ = some (.int .i64 x.op) ∧ w.cell? ⟨b, off + k * 4 + 1, none⟩ = some (.int .i64 x.a) ∧
      w.cell? ⟨b, off + k * 4 + 2, none⟩ = some (.int .i64 x.b) ∧ w.cell? ⟨b, off + k * 4 + 3, none⟩ = some (.int .i64 x.c) := by
  have hk : k < l.length := (List.getElem?_eq_some_iff.1 hx).1
  obtain ⟨b', off', x', e, hb, hx', h0, h1, h2, h3⟩ := h.at_ hk
  injection e with e
  injection e with e1 e2
  subst e1 e2
  rw [hx] at hx'
  injection hx' with hx'
  subst hx'
  exact ⟨hb, h0, h1, h2, h3⟩

theorem OI.len {w : World} {base n c : Nat} {A : Option Addr} {l : List Int} (h : OI w base A n c l) : l.length = n := by
  have := OR.len h; simpa using this
theorem OC.len {w : World} {base n c : Nat} {A : Option Addr} {l : List Cd} (h : OC w base A n c l) : l.length = n := by
  have := OR.len h; rw [cdsCells_length] at this; omega
theorem OI.rd {w : World} {base c : Nat} {A : Option Addr} {l : List Int} (h : OI w base A l.length c l) : RdI w w.heap.size A l := OR.reads h
theorem OC.rd {w : World} {base c : Nat} {A : Option Addr} {l : List Cd} (h : OC w base A l.length c l) : RdC w w.heap.size A l := OR.reads h
theorem OI.empty_ (w : World) (B : Nat) (hB : B ≤ w.heap.size) : OI (w.alloc (.cells #[] 3)) B (some ⟨w.heap.size, 0, none⟩) 0 0 [] :=
  (OR.lit w w.heap.size _ 1 0 #[] (Nat.le_refl _) (by omega) rfl).mono hB
theorem OC.empty_ (w : World) (B : Nat) (hB : B ≤ w.heap.size) : OC (w.alloc (.cells #[] 45)) B (some ⟨w.heap.size, 0, none⟩) 0 0 [] :=
  (OR.lit w w.heap.size _ 4 0 #[] (Nat.le_refl _) (by omega) rfl).mono hB
theorem OI.nil_ (w : World) (B : Nat) : OI w B none 0 0 [] := OR.nil_ _ _ _ _
theorem OC.nil_ (w : World) (B : Nat) : OC w B none 0 0 [] := OR.nil_ _ _ _ _

/-- A row of the call's own, or an empty slice whatever its address. -/
def OwC (w : World) (base : Nat) (A : Option Addr) (n c : Nat) (l : List Cd) : Prop := (n = 0 ∧ l = [] ∧ (A = none → c = 0)) ∨ OC w base A n c l
def OwI (w : World) (base : Nat) (A : Option Addr) (n c : Nat) (l : List Int) : Prop := (n = 0 ∧ l = []) ∨ OI w base A n c l
theorem OwC.len {w : World} {base n c : Nat} {A : Option Addr} {l : List Cd} (h : OwC w base A n c l) : l.length = n := by
  rcases h with ⟨h1, h2, -⟩ | h
  · rw [h1, h2]; rfl
  · exact OC.len h
theorem OwI.len {w : World} {base n c : Nat} {A : Option Addr} {l : List Int} (h : OwI w base A n c l) : l.length = n := by
  rcases h with ⟨h1, h2⟩ | h
  · rw [h1, h2]; rfl
  · exact OI.len h
theorem OwC.below {w w' : World} {base n c B : Nat} {A : Option Addr} {l : List Cd} (h : OwC w base A n c l) (hb : Below B w w') (hB : w.heap.size ≤ B) : OwC w' base A n c l :=
  h.imp id (fun h => OR.below h hb hB)
theorem OwI.below {w w' : World} {base n c B : Nat} {A : Option Addr} {l : List Int} (h : OwI w base A n c l) (hb : Below B w w') (hB : w.heap.size ≤ B) : OwI w' base A n c l :=
  h.imp id (fun h => OR.below h hb hB)
theorem OwC.rd {w : World} {base c : Nat} {A : Option Addr} {l : List Cd} (h : OwC w base A l.length c l) : RdC w w.heap.size A l := by
  rcases h with ⟨h1, h2, -⟩ | h
  · subst h2; exact Reads.none_.keep fun _ _ => rfl
  · exact OC.rd h
theorem OwI.rd {w : World} {base c : Nat} {A : Option Addr} {l : List Int} (h : OwI w base A l.length c l) : RdI w w.heap.size A l := by
  rcases h with ⟨h1, h2⟩ | h
  · subst h2; exact Reads.none_.keep fun _ _ => rfl
  · exact OI.rd h
theorem OC.nilc {w : World} {base n c : Nat} {A : Option Addr} {l : List Cd} (h : OC w base A n c l) (e : A = none) : c = 0 := by
  subst e
  rcases h.2 with ⟨hv, _⟩ | ⟨g, cap, cur, hv, _⟩
  · injection hv with _ _ h3
  · injection hv with h1
    cases h1
theorem OwC.nilc {w : World} {base n c : Nat} {A : Option Addr} {l : List Cd} (h : OwC w base A n c l) (e : A = none) : c = 0 := by
  rcases h with ⟨_, _, h⟩ | h
  · exact h e
  · exact h.nilc e
/-- A new row of numbers is returned. -/
def RetI (w : World) (l : List Int) (e : Ending) (w' : World) : Prop :=
  ∃ A c, e = .returned (.slice A l.length c) ∧ OwI w' w.heap.size A l.length c l ∧ Below w.heap.size w w'
/-- A new row of instructions is returned. -/
def RetC (w : World) (l : List Cd) (e : Ending) (w' : World) : Prop :=
  ∃ A c, e = .returned (.slice A l.length c) ∧ OwC w' w.heap.size A l.length c l ∧ Below w.heap.size w w'
theorem RetI.of {w w' : World} {l : List Int} {A : Option Addr} {n c : Nat} (h : OI w' w.heap.size A n c l) (hb : Below w.heap.size w w') : RetI w l (.returned (.slice A n c)) w' := by
  obtain rfl := OI.len h
  exact ⟨A, c, rfl, .inr h, hb⟩
theorem RetC.of {w w' : World} {l : List Cd} {A : Option Addr} {n c : Nat} (h : OC w' w.heap.size A n c l) (hb : Below w.heap.size w w') : RetC w l (.returned (.slice A n c)) w' := by
  obtain rfl := OC.len h
  exact ⟨A, c, rfl, .inr h, hb⟩
theorem RetC.mono {w w0 w' : World} {l : List Cd} {e : Ending} (h : RetC w0 l e w') (hb : Below w.heap.size w w0) : RetC w l e w' := by
  obtain ⟨A, c, he, ho, hb2⟩ := h
  exact ⟨A, c, he, ho.imp id (fun h => OR.mono h hb.size), below_trans hb (Nat.le_refl _) hb2⟩
theorem RetI.mono {w w0 w' : World} {l : List Int} {e : Ending} (h : RetI w0 l e w') (hb : Below w.heap.size w w0) : RetI w l e w' := by
  obtain ⟨A, c, he, ho, hb2⟩ := h
  exact ⟨A, c, he, ho.imp id (fun h => OR.mono h hb.size), below_trans hb (Nat.le_refl _) hb2⟩

/-- The four cells of an instruction, in a new block. -/
theorem cd_cells (w : World) (x : Cd) (t : TypeId) :
    (w.alloc (.cells #[.int .i64 x.op, .int .i64 x.a, .int .i64 x.b, .int .i64 x.c] t)).cell? ⟨w.heap.size, 0, none⟩ = some (.int .i64 x.op) ∧
    (w.alloc (.cells #[.int .i64 x.op, .int .i64 x.a, .int .i64 x.b, .int .i64 x.c] t)).cell? ⟨w.heap.size, 1, none⟩ = some (.int .i64 x.a) ∧
    (w.alloc (.cells #[.int .i64 x.op, .int .i64 x.a, .int .i64 x.b, .int .i64 x.c] t)).cell? ⟨w.heap.size, 2, none⟩ = some (.int .i64 x.b) ∧
    (w.alloc (.cells #[.int .i64 x.op, .int .i64 x.a, .int .i64 x.b, .int .i64 x.c] t)).cell? ⟨w.heap.size, 3, none⟩ = some (.int .i64 x.c) := by
  refine ⟨?_, ?_, ?_, ?_⟩ <;> simp [go_sem]

theorem OI.at0 {w : World} {base g n c : Nat} {r : List Int} (h : OI w base (some ⟨g, 0, none⟩) n c r) :
    (∀ j x, r[j]? = some x → w.cell? ⟨g, j, none⟩ = some (.int .i64 x)) ∧ (∀ j, w.frozen? ⟨g, j, none⟩ = false) ∧ (∀ j x, OI (w.setCell ⟨g, j, none⟩ (.int .i64 x)) base (some ⟨g, 0, none⟩) n c (r.set j x)) := by
  have h0 := OR.at0 h
  refine ⟨fun j x hx => h0.1 j _ (by rw [List.getElem?_map, hx]; rfl), h0.2.1, fun j x => ?_⟩
  have := h0.2.2 j (.int .i64 x)
  unfold OI
  rwa [← List.map_set] at this

theorem type_ne {w : World} {a b : Nat} {ca cb : Array Value} {s t : TypeId} (ha : w.heap[a]? = some (.cells ca s (0, 0))) (hb : w.heap[b]? = some (.cells cb t (0, 0))) (h : s ≠ t) : a ≠ b := by
  intro e
  subst e
  rw [ha] at hb
  injection hb with hb
  injection hb with _ hb
  exact h hb

theorem own_ne {w : World} {e size n c : Nat} {A : Option Addr} {xs : List Value} {base b : Nat} {cb : Array Value} {t : TypeId} (h : OR w base e size A n c xs) (hb : w.heap[b]? = some (.cells cb t (0, 0))) (hne : e ≠ t) : Value.ownBlock (.slice A n c) ≠ some b := by
  intro hk
  rcases h.2 with ⟨hv, _⟩ | ⟨g, cap, cur, hv, _, hg, _⟩
  · rw [hv] at hk; simp [Value.ownBlock] at hk
  · rw [hv] at hk
    simp [Value.ownBlock] at hk
    subst hk
    exact type_ne hg hb hne rfl

end Go.Proofs.Ytcpjhlkcfohkiaa
