/- Arguments of a law opened: slices that came in read as lists. The arguments read as before behind a call that writes into new memory alone. -/
import Derived.Test.YtfgbbajkdpideaaMem
import Derived.ProofKit
import Derived.OpenShut
import Derived.Carry
import Derived.Deep.Slices
import Derived.ChangeArms
namespace Go.Proofs.Ytfgbbajkdpideaa
open Go.ChangeShapes Go.WideShapes Go.RowKit Go.Deep
set_option linter.unusedVariables false
set_option linter.unusedSimpArgs false

theorem below_trodAll {H : Type} {enc : TypeId × Value → H} {P : Program} (hl : laidOutB P = true) {W W' : World} (hb : Below W.heap.size W W') :
    ∀ (ts : List TypeId) (vs : List Value) (ds : List (DataW H)) (ps : List MemPlace), ts.all (fun t => P.readableRec t && decide (t < P.types.size)) = true →
      DataW.TrodAll enc P W 0 (fun _ => true) true ts vs ds ps → (∀ x ∈ ps, x.block < W.heap.size) →
      DataW.TrodAll enc P W' 0 (fun b => decide (b < W.heap.size)) true ts vs ds ps
  | [], vs, ds, ps, _, h, _ => by
    obtain ⟨rfl, rfl, rfl⟩ := trodAll_nil h
    exact trodAll_mk0
  | t :: ts, vs, ds, ps, ht, h, hlt => by
    obtain ⟨v, vs', d, ds', p, q, rfl, rfl, rfl, h0, h1⟩ := trodAll_cons h
    simp only [List.all_cons, Bool.and_eq_true, decide_eq_true_eq] at ht
    exact trodAll_cons_mk (Below.trod hl ht.1.1 ht.1.2 h0 hb (fun x hx => hlt x (by simp [hx])))
      (below_trodAll hl hb ts vs' ds' q (by simpa using ht.2) h1 (fun x hx => hlt x (by simp [hx])))

section
variable {H : Type} {enc : TypeId × Value → H} {P : Program} {w : World}

theorem one_int {spare : Nat → Bool} {held : Bool} {base n : Nat} {t : TypeId} {k : IntKind} {v : Value} {y : DataW H × List MemPlace} (ht : P.underlying t = some (.int k)) (h : DataW.trod enc P w base spare held n t [v] = some y) : ∃ z, v = .int k z := by
  obtain ⟨z, e, _⟩ := DataW.trod_int ht h
  exact ⟨z, by simpa using e⟩

theorem cell_at {a : Addr} {v : Value} (h : w.cell? (a.add 0) = some v) : ∃ b off, a = ⟨b, off, none⟩ ∧ b < w.heap.size := by
  have hs := World.cell?_spot h
  have hb := World.block_lt_of_cell? w _ h
  rw [block_of_add] at hb
  obtain ⟨b, off, s⟩ := a
  have : s = none := by simpa [Addr.add] using hs
  subst this
  exact ⟨b, off, rfl, hb⟩

/-- A slice of one-cell numbers that came in. -/
theorem open_row1 {t e : TypeId} {k : IntKind} {r : Reach} {b0 : Nat} {v : Value} {d : DataW H} {p : List MemPlace} (ht : P.underlying t = some (.slice e)) (he : P.underlying e = some (.int k)) (hc : P.cellsOf e = 1)
    (hv : Value.okWide P w r b0 t v) (h : DataW.Trod enc P w 0 (fun _ => true) true t v d p) :
    ∃ (A : Option Addr) (c : Nat) (xs : List Int), v = .slice A xs.length c ∧ Reads w w.heap.size 1 A xs.length (xs.map (.int k)) ∧ xs.length ≤ 9223372036854775807 := by
  obtain ⟨a0, len, cap, rfl⟩ := okWide_slice ht hv
  obtain ⟨fuel, hf⟩ := h
  rcases open_ints ht he hc hf with ⟨hcs, hx⟩ | ⟨a, len', cap', zs, hcs, _, hl, hm, hz, hx, hcell, hwz⟩
  · simp [Value.cells] at hcs
    obtain ⟨rfl, rfl, rfl⟩ := hcs
    exact ⟨none, 0, [], rfl, Reads.none_, by simp⟩
  · simp [Value.cells] at hcs
    obtain ⟨rfl, rfl, rfl⟩ := hcs
    simp only [if_true] at hz
    unfold maxLen at hm
    have hlen : (zs.take len).length = len := by rw [List.length_take]; omega
    refine ⟨some a, cap, zs.take len, by rw [hlen], ⟨by simp, fun hn => ?_⟩, by omega⟩
    rw [hlen] at hn
    obtain ⟨b, off, rfl, hb⟩ := cell_at (hcell 0 (by omega))
    refine ⟨b, off, rfl, hb, fun j u hu => ?_⟩
    rw [List.getElem?_map, List.getElem?_take] at hu
    split at hu
    · have h1 := hcell j (by omega)
      rw [add_lit] at h1
      rw [h1, ← hu, List.getElem?_eq_getElem (by omega)]
      simp [List.getD, List.getElem?_eq_getElem (show j < zs.length by omega)]
    · simp at hu

/-- A slice of one-cell numbers that came in. -/
theorem open_bytes {t e : TypeId} {k : IntKind} {r : Reach} {b0 : Nat} {v : Value} {d : DataW H} {p : List MemPlace} (ht : P.underlying t = some (.slice e)) (he : P.underlying e = some (.int k)) (hc : P.cellsOf e = 1)
    (hv : Value.okWide P w r b0 t v) (h : DataW.Trod enc P w 0 (fun _ => true) true t v d p) :
    ∃ (A : Option Addr) (c : Nat) (xs : List Int), v = .slice A xs.length c ∧ Reads w w.heap.size 1 A xs.length (xs.map (.int k)) ∧ xs.length ≤ 9223372036854775807 ∧ (∀ x ∈ xs, (Lit.int k x).wf = true) ∧ xs.length ≤ c := by
  obtain ⟨a0, len, cap, rfl⟩ := okWide_slice ht hv
  obtain ⟨fuel, hf⟩ := h
  rcases open_ints ht he hc hf with ⟨hcs, hx⟩ | ⟨a, len', cap', zs, hcs, _, hl, hm, hz, hx, hcell, hwz⟩
  · simp [Value.cells] at hcs
    obtain ⟨rfl, rfl, rfl⟩ := hcs
    exact ⟨none, 0, [], rfl, Reads.none_, by simp, by simp, by simp⟩
  · simp [Value.cells] at hcs
    obtain ⟨rfl, rfl, rfl⟩ := hcs
    simp only [if_true] at hz
    unfold maxLen at hm
    have hlen : (zs.take len).length = len := by rw [List.length_take]; omega
    refine ⟨some a, cap, zs.take len, by rw [hlen], ⟨by simp, fun hn => ?_⟩, by omega, fun x hx => hwz x (List.mem_of_mem_take hx), by omega⟩
    rw [hlen] at hn
    obtain ⟨b, off, rfl, hb⟩ := cell_at (hcell 0 (by omega))
    refine ⟨b, off, rfl, hb, fun j u hu => ?_⟩
    rw [List.getElem?_map, List.getElem?_take] at hu
    split at hu
    · have h1 := hcell j (by omega)
      rw [add_lit] at h1
      rw [h1, ← hu, List.getElem?_eq_getElem (by omega)]
      simp [List.getD, List.getElem?_eq_getElem (show j < zs.length by omega)]
    · simp at hu

theorem wf_byte {x : Int} (h : (Lit.int .u8 x).wf = true) : 0 ≤ x ∧ x ≤ 255 := by
  simp [Lit.wf, IntKind.min, IntKind.max, IntKind.signed, IntKind.bits] at h
  omega

theorem row_of {n : Nat} {p : Nat → Value → Prop} (h : ∀ i, i < n → ∃ v, p i v) : ∃ f : Nat → Value, ∀ i, i < n → p i (f i) := by
  classical
  exact ⟨fun i => if hi : i < n then (h i hi).choose else .bool false, fun i hi => by simp only [dif_pos hi]; exact (h i hi).choose_spec⟩

/-- A slice of instructions that came in. -/
theorem open_codes {t e : TypeId} {f0 f1 f2 f3 : Field} {r : Reach} {b0 : Nat} {v : Value} {d : DataW H} {p : List MemPlace} (ht : P.underlying t = some (.slice e)) (he : P.underlying e = some (.struct #[f0, f1, f2, f3])) (hc : P.cellsOf e = 4)
    (e0 : P.underlying f0.type = some (.int .i64)) (e1 : P.underlying f1.type = some (.int .i64)) (e2 : P.underlying f2.type = some (.int .i64)) (e3 : P.underlying f3.type = some (.int .i64))
    (o0 : f0.offset = 0 ∧ P.cellsOf f0.type = 1) (o1 : f1.offset = 1 ∧ P.cellsOf f1.type = 1) (o2 : f2.offset = 2 ∧ P.cellsOf f2.type = 1) (o3 : f3.offset = 3 ∧ P.cellsOf f3.type = 1)
    (hv : Value.okWide P w r b0 t v) (h : DataW.Trod enc P w 0 (fun _ => true) true t v d p) :
    ∃ (A : Option Addr) (c : Nat) (l : List Cd), v = .slice A l.length c ∧ RdC w w.heap.size A l ∧ l.length ≤ 9223372036854775807 := by
  obtain ⟨a0, len, cap, rfl⟩ := okWide_slice ht hv
  obtain ⟨fuel, hf⟩ := h
  rcases open_slice ht hf with ⟨hcs, hx⟩ | ⟨a, len', cap', m, n, D, Pl, hcs, _, hl, hm, hmm, hx, hi⟩
  · simp [Value.cells] at hcs
    obtain ⟨rfl, rfl, rfl⟩ := hcs
    exact ⟨none, 0, [], rfl, Reads.none_, by simp⟩
  · simp [Value.cells] at hcs
    obtain ⟨rfl, rfl, rfl⟩ := hcs
    simp only [if_true] at hmm
    subst hmm
    unfold maxLen at hm
    rw [hc] at hi
    have key : ∀ i, i < len → ∃ x : Cd, ∀ j u, (cdCells x)[j]? = some u → w.cell? (a.add (i * 4 + j)) = some u := by
      intro i hil
      obtain ⟨cs', h1, h2⟩ := hi i (by omega)
      obtain ⟨_, hlen, hcell⟩ := World.cells?_some h1
      obtain ⟨xs, n', _, _, _, hxl, hg⟩ := DataW.trod_struct he h2
      match cs', hlen with
      | [c0, c1, c2, c3], _ =>
        match xs, hxl with
        | [y0, y1, y2, y3], _ =>
          have g0 := hg 0 f0 rfl
          have g1 := hg 1 f1 rfl
          have g2 := hg 2 f2 rfl
          have g3 := hg 3 f3 rfl
          rw [o0.1, o0.2] at g0
          rw [o1.1, o1.2] at g1
          rw [o2.1, o2.2] at g2
          rw [o3.1, o3.2] at g3
          obtain ⟨z0, rfl⟩ := one_int e0 (v := c0) (by simpa using g0)
          obtain ⟨z1, rfl⟩ := one_int e1 (v := c1) (by simpa using g1)
          obtain ⟨z2, rfl⟩ := one_int e2 (v := c2) (by simpa using g2)
          obtain ⟨z3, rfl⟩ := one_int e3 (v := c3) (by simpa using g3)
          refine ⟨⟨z0, z1, z2, z3⟩, fun j u hu => ?_⟩
          have hj : j < 4 := by
            have := (List.getElem?_eq_some_iff.1 hu).1
            simpa [cdCells] using this
          have h3 := hcell j hj
          rw [add_of_add] at h3
          rw [h3]
          exact hu
    have key2 : ∃ f : Nat → Cd, ∀ i, i < len → ∀ j u, (cdCells (f i))[j]? = some u → w.cell? (a.add (i * 4 + j)) = some u := by
      classical
      exact ⟨fun i => if hi : i < len then (key i hi).choose else ⟨0, 0, 0, 0⟩, fun i hi => by simp only [dif_pos hi]; exact (key i hi).choose_spec⟩
    obtain ⟨f, hf2⟩ := key2
    have hlen : ((List.range len).map f).length = len := by simp
    refine ⟨some a, m, (List.range len).map f, by rw [hlen], ⟨cdsCells_length _, fun hn => ?_⟩, by omega⟩
    rw [hlen] at hn
    obtain ⟨b, off, rfl, hb⟩ := cell_at (by simpa using hf2 0 hn 0 _ rfl)
    refine ⟨b, off, rfl, hb, fun j u hu => ?_⟩
    have hj : j < len * 4 := by
      have := (List.getElem?_eq_some_iff.1 hu).1
      rw [cdsCells_length, hlen] at this
      exact this
    have h4 : j / 4 < len := by omega
    have hg := cdsCells_get ((List.range len).map f) (j / 4) (f (j / 4)) (by simp [h4]) (j % 4) (by omega)
    rw [show j / 4 * 4 + j % 4 = j from by omega, hu] at hg
    have h3 := hf2 (j / 4) h4 (j % 4) u hg.symm
    rw [show j / 4 * 4 + j % 4 = j from by omega, add_lit] at h3
    exact h3
end
end Go.Proofs.Ytfgbbajkdpideaa
