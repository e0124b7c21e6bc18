/- A slice of programs that came in. -/
import Derived.Test.YtakeacndmnnbmaaGreatOpen
import Derived.Test.YtakeacndmnnbmaaGreatChain
namespace Go.Proofs.YtakeacndmnnbmaaGreat
open Go.ChangeShapes Go.WideShapes Go.RowKit Go.Deep
set_option linter.unusedVariables false
set_option linter.unusedSimpArgs false

section
variable {H : Type} {enc : TypeId × Value → H} {P : Program} {w : World}

/-- A row of instructions, as a cell of a row. -/
theorem codes_trod {t e : TypeId} {f0 f1 f2 f3 : Field} {fuel : Nat} {v : Value} {y : DataW H × List MemPlace} (ht : P.underlying t = some (.slice e)) (he : P.underlying e = some (.struct #[f0, f1, f2, f3])) (hc : P.cellsOf e = 4)
    (e0 : P.underlying f0.type = some (.int .i64)) (e1 : P.underlying f1.type = some (.int .i64)) (e2 : P.underlying f2.type = some (.int .i64)) (e3 : P.underlying f3.type = some (.int .i64))
    (o0 : f0.offset = 0 ∧ P.cellsOf f0.type = 1) (o1 : f1.offset = 1 ∧ P.cellsOf f1.type = 1) (o2 : f2.offset = 2 ∧ P.cellsOf f2.type = 1) (o3 : f3.offset = 3 ∧ P.cellsOf f3.type = 1)
    (hf : DataW.trod enc P w 0 (fun _ => true) true fuel t [v] = some y) :
    ∃ (A : Option Addr) (c : Nat) (l : List Cd), v = .slice A l.length c ∧ RdC w w.heap.size A l ∧ l.length ≤ 9223372036854775807 := by
  rcases open_slice ht hf with ⟨hcs, hx⟩ | ⟨a, len', cap', m, n, D, Pl, hcs, _, hl, hm, hmm, hx, hi⟩
  · obtain rfl : v = .slice none 0 0 := by simpa using hcs
    exact ⟨none, 0, [], rfl, Reads.none_, by simp⟩
  · obtain rfl : v = .slice (some a) len' cap' := by simpa using hcs
    simp only [if_true] at hmm
    subst hmm
    unfold maxLen at hm
    rw [hc] at hi
    have key : ∀ i, i < len' → ∃ x : Cd, ∀ j u, (cdCells x)[j]? = some u → w.cell? (a.add (i * 4 + j)) = some u := by
      intro i hil
      obtain ⟨cs', h1, h2⟩ := hi i (by omega)
      obtain ⟨_, hlen, hcell⟩ := World.cells?_some h1
      obtain ⟨xs, n', _, _, _, hxl, hg⟩ := DataW.trod_struct he h2
      match cs', hlen with
      | [c0, c1, c2, c3], _ =>
        match xs, hxl with
        | [y0, y1, y2, y3], _ =>
          have g0 := hg 0 f0 rfl
          have g1 := hg 1 f1 rfl
          have g2 := hg 2 f2 rfl
          have g3 := hg 3 f3 rfl
          rw [o0.1, o0.2] at g0
          rw [o1.1, o1.2] at g1
          rw [o2.1, o2.2] at g2
          rw [o3.1, o3.2] at g3
          obtain ⟨z0, rfl⟩ := one_int e0 (v := c0) (by simpa using g0)
          obtain ⟨z1, rfl⟩ := one_int e1 (v := c1) (by simpa using g1)
          obtain ⟨z2, rfl⟩ := one_int e2 (v := c2) (by simpa using g2)
          obtain ⟨z3, rfl⟩ := one_int e3 (v := c3) (by simpa using g3)
          refine ⟨⟨z0, z1, z2, z3⟩, fun j u hu => ?_⟩
          have hj : j < 4 := by
            have := (List.getElem?_eq_some_iff.1 hu).1
            simpa [cdCells] using this
          have h3 := hcell j hj
          rw [add_of_add] at h3
          rw [h3]
          exact hu
    have key2 : ∃ f : Nat → Cd, ∀ i, i < len' → ∀ j u, (cdCells (f i))[j]? = some u → w.cell? (a.add (i * 4 + j)) = some u := by
      classical
      exact ⟨fun i => if hi : i < len' then (key i hi).choose else ⟨0, 0, 0, 0⟩, fun i hi => by simp only [dif_pos hi]; exact (key i hi).choose_spec⟩
    obtain ⟨f, hf2⟩ := key2
    have hlen : ((List.range len').map f).length = len' := by simp
    refine ⟨some a, m, (List.range len').map f, by rw [hlen], ⟨cdsCells_length _, fun hn => ?_⟩, by omega⟩
    rw [hlen] at hn
    obtain ⟨b, off, rfl, hb⟩ := cell_at (by simpa using hf2 0 hn 0 _ rfl)
    refine ⟨b, off, rfl, hb, fun j u hu => ?_⟩
    have hj : j < len' * 4 := by
      have := (List.getElem?_eq_some_iff.1 hu).1
      rw [cdsCells_length, hlen] at this
      exact this
    have h4 : j / 4 < len' := by omega
    have hg := cdsCells_get ((List.range len').map f) (j / 4) (f (j / 4)) (by simp [h4]) (j % 4) (by omega)
    rw [show j / 4 * 4 + j % 4 = j from by omega, hu] at hg
    have h3 := hf2 (j / 4) h4 (j % 4) u hg.symm
    rw [show j / 4 * 4 + j % 4 = j from by omega, add_lit] at h3
    exact h3

/-- A slice of programs that came in. -/
theorem open_codes2 {u t e : TypeId} {f0 f1 f2 f3 : Field} {r : Reach} {b0 : Nat} {v : Value} {d : DataW H} {p : List MemPlace} (hu : P.underlying u = some (.slice t)) (ht : P.underlying t = some (.slice e)) (ct : P.cellsOf t = 1) (he : P.underlying e = some (.struct #[f0, f1, f2, f3])) (hc : P.cellsOf e = 4)
    (e0 : P.underlying f0.type = some (.int .i64)) (e1 : P.underlying f1.type = some (.int .i64)) (e2 : P.underlying f2.type = some (.int .i64)) (e3 : P.underlying f3.type = some (.int .i64))
    (o0 : f0.offset = 0 ∧ P.cellsOf f0.type = 1) (o1 : f1.offset = 1 ∧ P.cellsOf f1.type = 1) (o2 : f2.offset = 2 ∧ P.cellsOf f2.type = 1) (o3 : f3.offset = 3 ∧ P.cellsOf f3.type = 1)
    (hv : Value.okWide P w r b0 u v) (h : DataW.Trod enc P w 0 (fun _ => true) true u v d p) :
    ∃ (A : Option Addr) (c : Nat) (ps : List (List Cd)) (As : Nat → Option Addr) (cs : Nat → Nat), v = .slice A ps.length c ∧ RdP w w.heap.size A As cs ps ∧ ps.length ≤ 9223372036854775807 ∧ ∀ i, i < ps.length → (ps.getD i []).length ≤ 9223372036854775807 := by
  obtain ⟨a0, len, cap, rfl⟩ := okWide_slice hu hv
  obtain ⟨fuel, hf⟩ := h
  rcases open_slice hu hf with ⟨hcs, hx⟩ | ⟨a, len', cap', m, n, D, Pl, hcs, _, hl, hm, hmm, hx, hi⟩
  · simp [Value.cells] at hcs
    obtain ⟨rfl, rfl, rfl⟩ := hcs
    exact ⟨none, 0, [], fun _ => none, fun _ => 0, rfl, ⟨Reads.none_, fun i hi => absurd hi (by simp)⟩, by simp, fun i hi => absurd hi (by simp)⟩
  · simp [Value.cells] at hcs
    obtain ⟨rfl, rfl, rfl⟩ := hcs
    simp only [if_true] at hmm
    subst hmm
    unfold maxLen at hm
    rw [ct] at hi
    have key : ∀ i, i < len → ∃ x : Option Addr × Nat × List Cd, w.cell? (a.add i) = some (.slice x.1 x.2.2.length x.2.1) ∧ RdC w w.heap.size x.1 x.2.2 ∧ x.2.2.length ≤ 9223372036854775807 := by
      intro i hil
      obtain ⟨cs', h1, h2⟩ := hi i (by omega)
      obtain ⟨_, hlen, hcell⟩ := World.cells?_some h1
      match cs', hlen with
      | [v0], _ =>
        obtain ⟨A, c, l, rfl, hR, hL⟩ := codes_trod ht he hc e0 e1 e2 e3 o0 o1 o2 o3 h2
        have h3 := hcell 0 (by omega)
        rw [add_of_add] at h3
        exact ⟨(A, c, l), by simpa using h3, hR, hL⟩
    obtain ⟨f, hf2⟩ : ∃ f : Nat → Option Addr × Nat × List Cd, ∀ i, i < len → w.cell? (a.add i) = some (.slice (f i).1 (f i).2.2.length (f i).2.1) ∧ RdC w w.heap.size (f i).1 (f i).2.2 ∧ (f i).2.2.length ≤ 9223372036854775807 := by
      classical
      exact ⟨fun i => if hi : i < len then (key i hi).choose else (none, 0, []), fun i hi => by simp only [dif_pos hi]; exact (key i hi).choose_spec⟩
    have hlen : ((List.range len).map fun i => (f i).2.2).length = len := by simp
    have hg : ∀ i, i < len → ((List.range len).map fun i => (f i).2.2).getD i [] = (f i).2.2 := fun i hi => by simp [List.getD_eq_getElem?_getD, hi]
    refine ⟨some a, m, (List.range len).map fun i => (f i).2.2, fun i => (f i).1, fun i => (f i).2.1, by rw [hlen], ⟨⟨by simp [progV], fun hn => ?_⟩, fun i hi => ?_⟩, by omega, fun i hi => ?_⟩
    · rw [hlen] at hn
      obtain ⟨b, off, rfl, hb⟩ := cell_at (hf2 0 hn).1
      refine ⟨b, off, rfl, hb, fun j u hu => ?_⟩
      have hj : j < len := by
        have := (List.getElem?_eq_some_iff.1 hu).1
        simpa [progV] using this
      rw [progV_get (by rw [hlen]; exact hj), hg j hj] at hu
      rw [← hu, ← (hf2 j hj).1, add_lit]
    · rw [hlen] at hi
      rw [hg i hi]
      exact (hf2 i hi).2.1
    · rw [hlen] at hi
      rw [hg i hi]
      exact (hf2 i hi).2.2
end
end Go.Proofs.YtakeacndmnnbmaaGreat
