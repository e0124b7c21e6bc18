/- Part 20 of what the claim needs. -/
import Derived.Test.YtelbfeidpcojmaaGreatSa2
import Derived.Test.YtelbfeidpcojmaaGreatSa3
import Derived.Test.YtelbfeidpcojmaaGreatSa4
import Derived.Test.YtelbfeidpcojmaaGreatSa5
import Derived.Test.YtelbfeidpcojmaaGreatSa6
import Derived.Test.YtelbfeidpcojmaaGreatSa10
import Derived.Test.YtelbfeidpcojmaaGreatSa14
import Derived.Test.YtelbfeidpcojmaaGreatSa17
import Derived.Test.YtelbfeidpcojmaaGreatSa18
import Derived.Test.YtelbfeidpcojmaaGreatSa19
import Derived.Deep.Cut
import Derived.Deep.AppendLies
import Derived.Deep.RegionHeld3
import Derived.Deep.RegionLaw
import Derived.StillTailTactics
import Derived.ProofKit
import Derived.OpenShut
import Derived.Carry
import Derived.Deep.Slices
import Derived.ChangeArms
namespace Go.Proofs.YtelbfeidpcojmaaGreat
open Go.RowKit
set_option linter.unusedVariables false
set_option linter.unusedSimpArgs false

def beatCells (bs : List (Nat × Nat)) : List Value := bs.flatMap fun q => [.int .i64 q.1, .int .i64 q.2]
theorem beatCells_append (a b : List (Nat × Nat)) : beatCells (a ++ b) = beatCells a ++ beatCells b := by simp [beatCells]
def rowVals (rk : Nat → Nat) (n : Nat) : List Value := (List.range n).map fun k => .slice (some ⟨rk k, 0, none⟩) 4 4
theorem rowVals_get (rk : Nat → Nat) (n k : Nat) (h : k < n) : (rowVals rk n)[k]? = some (.slice (some ⟨rk k, 0, none⟩) 4 4) := by simp [rowVals, h]

/-- Where the parts of a run lie. -/
structure SW where
  B : Nat
  g : Nat
  A : Option Addr
  ca : Nat
  l : List Cd
  n : Nat
  rg : Nat
  rc : Nat
  rk : Nat → Nat
  mb : Nat
  mc : Nat

def SW.row (z : SW) (s : LS) (T : Option Addr) (tc : Nat) (sp : Bool) : Array Value :=
  #[.slice z.A z.l.length z.ca, .int .i64 z.n, .slice (some ⟨z.rg, 0, none⟩) z.n z.rc, .slice (some ⟨z.mb, 0, none⟩) s.mem.length z.mc, .slice T s.beats.length tc, .bool sp, .slice none 0 0, .bool false]

structure SR (w : World) (z : SW) (T : Option Addr) (tc : Nat) (sp : Bool) (s : LS) : Prop where
  blk : w.heap[z.g]? = some (.cells (z.row s T tc sp) 102 (0, 0))
  gB : z.B ≤ z.g
  out : OR w z.B 24 1 (some ⟨z.rg, 0, none⟩) z.n z.rc (rowVals z.rk z.n)
  inn : ∀ k, k < z.n → OI w z.B (some ⟨z.rk k, 0, none⟩) 4 4 (s.regs.getD k [])
  mem : OI w z.B (some ⟨z.mb, 0, none⟩) s.mem.length z.mc s.mem
  trc : OR w z.B 78 2 T s.beats.length tc (beatCells s.beats)
  inj : ∀ j k, j < z.n → k < z.n → z.rk j = z.rk k → j = k
  mne : ∀ k, k < z.n → z.rk k ≠ z.mb
  lst : RdC w z.B z.A z.l

/-- Nothing below B is turned, and no block of instructions. -/
structure Stp (B : Nat) (w w' : World) : Prop where
  bel : Below B w w'
  code : ∀ (k : Nat) (cs : Array Value), w.heap[k]? = some (.cells cs 76 (0, 0)) → w'.heap[k]? = some (.cells cs 76 (0, 0))
theorem Stp.refl (B : Nat) (w : World) : Stp B w w := ⟨Below.refl _ _, fun _ _ h => h⟩
theorem Stp.trans {B : Nat} {a b c : World} (h : Stp B a b) (k : Stp B b c) : Stp B a c := ⟨h.bel.trans k.bel, fun i cs hi => k.code i cs (h.code i cs hi)⟩
theorem Stp.of_ext {B : Nat} {w w' : World} (h : Ext w w') (hB : B ≤ w.heap.size) : Stp B w w' := ⟨h.below.mono hB, fun _ _ hk => h.heap_ hk⟩
theorem Stp.of_below {B : Nat} {w w' : World} (h : Below w.heap.size w w') (hB : B ≤ w.heap.size) : Stp B w w' := Stp.of_ext (Ext.of_below h) hB
theorem Stp.drew {B : Nat} {w w' : World} (h : Stp B w w') : Stp B w w'.drew := ⟨h.bel.drew, h.code⟩
theorem Stp.size {B : Nat} {w w' : World} (h : Stp B w w') : w.heap.size ≤ w'.heap.size := h.bel.size

section
variable {w w' : World} {z : SW} {T : Option Addr} {tc : Nat} {sp : Bool} {s : LS}
theorem SR.ext (h : SR w z T tc sp s) (hx : Ext w w') (hB : z.B ≤ w.heap.size) : SR w' z T tc sp s :=
  ⟨hx.heap_ h.blk, h.gB, h.out.ext hx, fun k hk => OR.ext (h.inn k hk) hx, OR.ext h.mem hx, h.trc.ext hx, h.inj, h.mne, h.lst.below ((hx.below).mono hB)⟩

theorem SR.cells (h : SR w z T tc sp s) : w.cell? ⟨z.g, 0, none⟩ = some (.slice z.A z.l.length z.ca) ∧ w.cell? ⟨z.g, 1, none⟩ = some (.int .i64 z.n) ∧
    w.cell? ⟨z.g, 2, none⟩ = some (.slice (some ⟨z.rg, 0, none⟩) z.n z.rc) ∧ w.cell? ⟨z.g, 3, none⟩ = some (.slice (some ⟨z.mb, 0, none⟩) s.mem.length z.mc) ∧
    w.cell? ⟨z.g, 4, none⟩ = some (.slice T s.beats.length tc) ∧ w.cell? ⟨z.g, 5, none⟩ = some (.bool sp) ∧ w.cell? ⟨z.g, 6, none⟩ = some (.slice none 0 0) := by
  refine ⟨?_, ?_, ?_, ?_, ?_, ?_, ?_⟩ <;> (rw [cell_of_heap h.blk]; rfl)
theorem SR.rowAt (h : SR w z T tc sp s) {k : Nat} (hk : k < z.n) : w.cell? ⟨z.rg, k, none⟩ = some (.slice (some ⟨z.rk k, 0, none⟩) 4 4) :=
  (OR.at0 h.out).1 k _ (rowVals_get _ _ _ hk)
theorem SR.glt (h : SR w z T tc sp s) : z.g < w.heap.size := lt_of_block h.blk
theorem SR.g_rk (h : SR w z T tc sp s) {k : Nat} (hk : k < z.n) : z.g ≠ z.rk k := by
  obtain ⟨cur, hc⟩ := OR.heap_ (h.inn k hk)
  exact type_ne h.blk hc (by decide)
theorem SR.g_mb (h : SR w z T tc sp s) : z.g ≠ z.mb := by
  obtain ⟨cur, hc⟩ := OR.heap_ h.mem
  exact type_ne h.blk hc (by decide)
theorem SR.t_g (h : SR w z T tc sp s) : Value.ownBlock (.slice T s.beats.length tc) ≠ some z.g := own_ne h.trc h.blk (by decide)
theorem SR.t_rk (h : SR w z T tc sp s) {k : Nat} (hk : k < z.n) : Value.ownBlock (.slice T s.beats.length tc) ≠ some (z.rk k) := by
  obtain ⟨cur, hc⟩ := OR.heap_ (h.inn k hk)
  exact own_ne h.trc hc (by decide)
theorem SR.t_mb (h : SR w z T tc sp s) : Value.ownBlock (.slice T s.beats.length tc) ≠ some z.mb := by
  obtain ⟨cur, hc⟩ := OR.heap_ h.mem
  exact own_ne h.trc hc (by decide)
theorem SR.t_rg (h : SR w z T tc sp s) : Value.ownBlock (.slice T s.beats.length tc) ≠ some z.rg := by
  obtain ⟨cur, hc⟩ := OR.heap_ h.out
  exact own_ne h.trc hc (by decide)

/-- One instruction of lane k. -/
theorem SR.simp (h : SR w z T tc sp s) {x : Cd} {k mn : Nat} (hk : k < z.n) (hok : SOk z.n s) (hmn : mn = s.mem.length) (hB : z.B ≤ w.heap.size)
    (hs : Simp1 w z.B (z.rk k) 4 z.mb mn z.mc x k (s.regs.getD k []) s.mem w') : SR w' z T tc sp (exec1 x s k) ∧ Stp z.B w w' := by
  subst hmn
  obtain ⟨h1, h2, h3⟩ := hs
  obtain ⟨cur, hc⟩ := OR.heap_ (h.inn k hk)
  obtain ⟨cum, hcm⟩ := OR.heap_ h.mem
  have hl := simp1_len x k (s.regs.getD k []) s.mem
  have hkl : k < s.regs.length := by rw [hok.len]; exact hk
  have hb : Below z.B w w' := h3.below (OR.block (h.inn k hk) _ rfl).1 (OR.block h.mem _ rfl).1 hB
  refine ⟨⟨?_, h.gB, ?_, ?_, ?_, ?_, h.inj, h.mne, h.lst.below hb⟩, hb, fun i cs hi => (h3.block i (lt_of_block hi) (type_ne hi hc (by decide)) (type_ne hi hcm (by decide))).trans hi⟩
  · rw [h3.block _ h.glt (h.g_rk hk) h.g_mb, h.blk]
    simp only [SW.row, exec1, hl.2]
  · exact h.out.off h3 (by
      intro e
      obtain ⟨co, ho⟩ := OR.heap_ h.out
      exact type_ne ho hc (by decide) (by injection e)) (by
      intro e
      obtain ⟨co, ho⟩ := OR.heap_ h.out
      exact type_ne ho hcm (by decide) (by injection e))
  · intro j hj
    by_cases e : j = k
    · subst e
      have : (exec1 x s j).regs.getD j [] = (simp1 x j (s.regs.getD j []) s.mem).1 := by
        simp [exec1, List.getD_eq_getElem?_getD, hkl]
      rw [this]
      exact h1
    · have : (exec1 x s k).regs.getD j [] = s.regs.getD j [] := by
        simp [exec1, List.getD_eq_getElem?_getD, List.getElem?_set_ne (fun h => e h.symm)]
      rw [this]
      refine OR.off (h.inn j hj) h3 ?_ ?_
      · intro e2; exact e (h.inj j k hj hk (by injection e2))
      · intro e2; exact h.mne j hj (by injection e2)
  · have : (exec1 x s k).mem.length = s.mem.length := hl.2
    rw [this]
    exact h2
  · exact h.trc.off h3 (h.t_rk hk) h.t_mb

/-- A store into cell 4, behind an append to the trace. -/
theorem SR.beat_ {wb w2 : World} (h : SR w z T tc sp s) (hX : Ext w wb) (hB : z.B ≤ w.heap.size) {p m : Nat} {T' : Option Addr} {tc' : Nat} (hg : wb.grownBy w2 (Value.ownBlock (.slice T s.beats.length tc)))
    (ho : OR w2 z.B 78 2 T' (s.beats.length + 1) tc' (beatCells s.beats ++ [.int .i64 p, .int .i64 m])) :
    SR (w2.setCell ⟨z.g, 4, none⟩ (.slice T' (s.beats.length + 1) tc')) z T' tc' sp (beat p m s) ∧ Stp z.B w (w2.setCell ⟨z.g, 4, none⟩ (.slice T' (s.beats.length + 1) tc')) := by
  have hwb := h.ext hX hB
  have kp : ∀ k, k < wb.heap.size → Value.ownBlock (.slice T s.beats.length tc) ≠ some k → w2.heap[k]? = wb.heap[k]? := fun k hk hne => hg.block k hk (fun e => hne e.symm)
  have hblk : w2.heap[z.g]? = some (.cells (z.row s T tc sp) 102 (0, 0)) := (kp _ hwb.glt hwb.t_g).trans hwb.blk
  have hout := OR.kept hwb.out hg (.inr fun e => hwb.t_rg e.symm)
  have hmem := OR.kept hwb.mem hg (.inr fun e => hwb.t_mb e.symm)
  have hbl : (beat p m s).beats.length = s.beats.length + 1 := by simp [beat]
  have hlst : Below z.B wb w2 := ⟨hg.os, hg.tape, hg.output, hg.size, fun k hk => kp k (by have := hX.size; omega) (fun e => by have := (OR.block hwb.trc k e).1; omega)⟩
  have hb2 : Below z.B w (w2.setCell ⟨z.g, 4, none⟩ (.slice T' (s.beats.length + 1) tc')) := (((hX.below).mono hB).trans hlst).setCell h.gB _
  have og : ∀ {e size n c : Nat} {A : Option Addr} {xs : List Value}, OR w2 z.B e size A n c xs → e ≠ 102 → OR (w2.setCell ⟨z.g, 4, none⟩ (.slice T' (s.beats.length + 1) tc')) z.B e size A n c xs := fun ho hne => OR.set_other ho (p := ⟨z.g, 4, none⟩) (own_ne ho hblk hne) _
  refine ⟨⟨?_, h.gB, og hout (by decide), fun k hk => ?_, og hmem (by decide), ?_, h.inj, h.mne, ?_⟩, hb2, fun i cs hi => ?_⟩
  · rw [heap_set_same hblk]
    simp [SW.row, hbl]
    rfl
  · exact og (OR.kept (hwb.inn k hk) hg (.inr fun e => hwb.t_rk hk e.symm)) (by decide)
  · rw [hbl]
    have e : beatCells (beat p m s).beats = beatCells s.beats ++ [.int .i64 p, .int .i64 m] := by
      show beatCells (s.beats ++ [(p, m)]) = _
      rw [beatCells_append]; rfl
    rw [e]
    exact og ho (by decide)
  · exact h.lst.below hb2
  · have hib := hX.heap_ hi
    have h2 := (kp i (lt_of_block hib) (own_ne hwb.trc hib (by decide))).trans hib
    rw [heap_set_other (type_ne h2 hblk (by decide))]
    exact h2

/-- A store of whether a barrier is split. -/
theorem SR.spl (h : SR w z T tc sp s) (hB : z.B ≤ w.heap.size) (b : Bool) : SR (w.setCell ⟨z.g, 5, none⟩ (.bool b)) z T tc b s ∧ Stp z.B w (w.setCell ⟨z.g, 5, none⟩ (.bool b)) := by
  have hb : Below z.B w (w.setCell ⟨z.g, 5, none⟩ (.bool b)) := (Below.refl _ _).setCell h.gB _
  have og : ∀ {e size n c : Nat} {A : Option Addr} {xs : List Value}, OR w z.B e size A n c xs → e ≠ 102 → OR (w.setCell ⟨z.g, 5, none⟩ (.bool b)) z.B e size A n c xs := fun ho hne => OR.set_other ho (p := ⟨z.g, 5, none⟩) (own_ne ho h.blk hne) _
  refine ⟨⟨?_, h.gB, og h.out (by decide), fun k hk => og (h.inn k hk) (by decide), og h.mem (by decide), og h.trc (by decide), h.inj, h.mne, h.lst.below hb⟩, hb, fun i cs hi => (heap_set_other (type_ne hi h.blk (by decide)) _ _).trans hi⟩
  rw [heap_set_same h.blk]
  rfl
end



/-- A run whose first k lanes have their registers. -/
structure AR (w : World) (B g : Nat) (A : Option Addr) (ca : Nat) (l : List Cd) (n mb mc : Nat) (mem : List Int) (T : Option Addr) (tc : Nat) (R : Option Addr) (rc : Nat) (rk : Nat → Nat) (k : Nat) : Prop where
  blk : w.heap[g]? = some (.cells #[.slice A l.length ca, .int .i64 n, .slice R k rc, .slice (some ⟨mb, 0, none⟩) mem.length mc, .slice T 0 tc, .bool false, .slice none 0 0, .bool false] 102 (0, 0))
  gB : B ≤ g
  out : OR w B 24 1 R k rc (rowVals rk k)
  inn : ∀ j, j < k → OI w B (some ⟨rk j, 0, none⟩) 4 4 [0, 0, 0, 0]
  mem : OI w B (some ⟨mb, 0, none⟩) mem.length mc mem
  trc : OR w B 78 2 T 0 tc []
  inj : ∀ i j, i < k → j < k → rk i = rk j → i = j
  mne : ∀ j, j < k → rk j ≠ mb
  lst : RdC w B A l

section
variable {w w3 : World} {B g : Nat} {A : Option Addr} {ca : Nat} {l : List Cd} {n mb mc : Nat} {mem : List Int} {T : Option Addr} {tc : Nat} {R : Option Addr} {rc : Nat} {rk : Nat → Nat} {k : Nat}
theorem rowVals_succ (rk : Nat → Nat) (k v : Nat) : rowVals (fun j => if j = k then v else rk j) (k + 1) = rowVals rk k ++ [.slice (some ⟨v, 0, none⟩) 4 4] := by
  unfold rowVals
  rw [List.range_succ, List.map_append]
  congr 1
  · apply List.map_congr_left
    intro j hj
    have : j < k := List.mem_range.1 hj
    simp [show j ≠ k by omega]
  · simp
theorem AR.ext {w' : World} (h : AR w B g A ca l n mb mc mem T tc R rc rk k) (hx : Ext w w') (hB : B ≤ w.heap.size) : AR w' B g A ca l n mb mc mem T tc R rc rk k :=
  ⟨hx.heap_ h.blk, h.gB, h.out.ext hx, fun j hj => OR.ext (h.inn j hj) hx, OR.ext h.mem hx, h.trc.ext hx, h.inj, h.mne, h.lst.below ((hx.below).mono hB)⟩
theorem AR.step (h : AR w B g A ca l n mb mc mem T tc R rc rk k) (hB : B ≤ w.heap.size) {gg cap : Nat} {cs : Array Value} (hcs : cs.toList = [.int .i64 0, .int .i64 0, .int .i64 0, .int .i64 0])
    (hg : ((w.alloc (.cells cs 3)).alloc (.cells #[.slice (some ⟨w.heap.size, 0, none⟩) 4 4] 24)).grownBy w3 (Value.ownBlock (.slice R k rc)))
    (ho : OR w3 B 24 1 (some ⟨gg, 0, none⟩) (k + 1) cap (rowVals rk k ++ [.slice (some ⟨w.heap.size, 0, none⟩) 4 4])) :
    AR (w3.setCell ⟨g, 2, none⟩ (.slice (some ⟨gg, 0, none⟩) (k + 1) cap)) B g A ca l n mb mc mem T tc (some ⟨gg, 0, none⟩) cap (fun j => if j = k then w.heap.size else rk j) (k + 1) ∧ Below B w (w3.setCell ⟨g, 2, none⟩ (.slice (some ⟨gg, 0, none⟩) (k + 1) cap)) := by
  have hX1 := Ext.alloc w (.cells cs 3)
  have hX2 := Ext.alloc (w.alloc (.cells cs 3)) (.cells #[.slice (some ⟨w.heap.size, 0, none⟩) 4 4] 24)
  have hrow : OI (w.alloc (.cells cs 3)) B (some ⟨w.heap.size, 0, none⟩) 4 4 [0, 0, 0, 0] := by
    have := OR.lit w B 3 1 4 cs hB (by omega) (by rw [← Array.length_toList, hcs]; rfl)
    rw [hcs] at this
    exact this
  have hrow2 := OR.ext hrow hX2
  have h2 := h.ext (hX1.trans hX2) hB
  have hglt : g < w.heap.size := lt_of_block h.blk
  generalize (w.alloc (.cells cs 3)).alloc (.cells #[.slice (some ⟨w.heap.size, 0, none⟩) 4 4] 24) = w2 at *
  have ownR : ∀ {b : Nat} {cb : Array Value} {t : TypeId}, w2.heap[b]? = some (.cells cb t (0, 0)) → 24 ≠ t → Value.ownBlock (.slice R k rc) ≠ some b := fun hb hne => own_ne h2.out hb hne
  have kp : ∀ j, j < w2.heap.size → Value.ownBlock (.slice R k rc) ≠ some j → w3.heap[j]? = w2.heap[j]? := fun j hj hne => hg.block j hj (fun e => hne e.symm)
  have hblk3 := (kp g (lt_of_block h2.blk) (ownR h2.blk (by decide))).trans h2.blk
  have hlst : Below B w2 w3 := ⟨hg.os, hg.tape, hg.output, hg.size, fun j hj => kp j (by have := hX1.size; have := hX2.size; omega) (fun e => by have := (OR.block h2.out j e).1; omega)⟩
  have hb2 : Below B w (w3.setCell ⟨g, 2, none⟩ (.slice (some ⟨gg, 0, none⟩) (k + 1) cap)) := ((((hX1.trans hX2).below).mono hB).trans hlst).setCell h.gB _
  have og : ∀ {e size n c : Nat} {A : Option Addr} {xs : List Value}, OR w3 B e size A n c xs → e ≠ 102 → OR (w3.setCell ⟨g, 2, none⟩ (.slice (some ⟨gg, 0, none⟩) (k + 1) cap)) B e size A n c xs := fun ho hne => OR.set_other ho (p := ⟨g, 2, none⟩) (own_ne ho hblk3 hne) _
  have okp : ∀ {e size n c : Nat} {A : Option Addr} {xs : List Value} {b : Nat}, A = some ⟨b, 0, none⟩ → OR w2 B e size A n c xs → e ≠ 24 → OR w3 B e size A n c xs := fun {e size n c A xs b} hA ho hne => by
    subst hA
    obtain ⟨cur, hc⟩ := OR.heap_ ho
    exact OR.kept ho hg (.inr fun e' => ownR hc (Ne.symm hne) e'.symm)
  have okT : OR w3 B 78 2 T 0 tc [] := by
    rcases h2.trc.2 with ⟨hv, hn⟩ | ⟨g', cap', cur, hv, hb', hg', hrest⟩
    · exact ⟨h2.trc.1, .inl ⟨hv, hn⟩⟩
    · refine ⟨h2.trc.1, .inr ⟨g', cap', cur, hv, hb', ?_, hrest⟩⟩
      exact (kp g' (lt_of_block hg') (ownR hg' (by decide))).trans hg'
  have lt_rk : ∀ j, j < k → rk j < w.heap.size := fun j hj => (OR.base_le (h.inn j hj)).2
  have lt_mb : mb < w.heap.size := (OR.base_le h.mem).2
  refine ⟨⟨?_, h.gB, og (by rw [rowVals_succ]; exact ho) (by decide), fun j hj => ?_, og (okp rfl h2.mem (by decide)) (by decide), og okT (by decide), fun i j hi hj e => ?_, fun j hj => ?_, h.lst.below hb2⟩, hb2⟩
  · rw [heap_set_same hblk3]
    rfl
  · by_cases e : j = k
    · subst e
      simp only [if_true]
      exact og (okp rfl hrow2 (by decide)) (by decide)
    · simp only [e, if_false]
      exact og (okp rfl (h2.inn j (by omega)) (by decide)) (by decide)
  · by_cases e1 : i = k <;> by_cases e2 : j = k <;> simp only [e1, e2, if_true, if_false] at e
    · omega
    · have := lt_rk j (by omega); omega
    · have := lt_rk i (by omega); omega
    · exact h.inj i j (by omega) (by omega) e
  · by_cases e1 : j = k <;> simp only [e1, if_true, if_false]
    · omega
    · exact h.mne j (by omega)
theorem AR.done {rg : Nat} (h : AR w B g A ca l n mb mc mem T tc (some ⟨rg, 0, none⟩) rc rk n) : SR w ⟨B, g, A, ca, l, n, rg, rc, rk, mb, mc⟩ T tc false (LS.start n mem) := by
  refine ⟨h.blk, h.gB, h.out, fun k hk => ?_, h.mem, h.trc, h.inj, h.mne, h.lst⟩
  have e : (LS.start n mem).regs.getD k [] = [0, 0, 0, 0] := by
    have hk' : k < n := hk
    simp [LS.start, List.getD_eq_getElem?_getD, hk']
  rw [e]
  exact h.inn k hk
end
theorem SOk.start {n : Nat} {mem : List Int} (hn : n ≤ 8) (hm : wordsOk mem) (h1 : 1 ≤ mem.length) (h2 : mem.length ≤ 32) : SOk n (LS.start n mem) :=
  ⟨hn, by simp [LS.start], fun r hr => by
    have : r = [0, 0, 0, 0] := (List.mem_replicate.1 hr).2
    subst this
    exact ⟨rfl, fun v hv => by simp at hv; omega⟩, hm, h1, h2⟩




def RunP (w : World) (e : Ending) (w' : World) : Prop :=
  ∃ (l : List Cd) (A : Option Addr) (c : Nat) (n : Int) (m : List Int) (Am : Option Addr) (cm : Nat), e = .returned (.tuple #[.slice A l.length c, .int .i64 n, .slice Am m.length cm]) ∧ l.length ≤ 200000 ∧ m.length ≤ 40 ∧ (0 ≤ n ∧ n ≤ 9) ∧
    RdC w' w'.heap.size A l ∧ RdI w' w'.heap.size Am m ∧ Below w.heap.size w w'
theorem RunP.of {w w1 w2 : World} {B g K n c m cm : Nat} {lanes : Int} {A Am : Option Addr} (hB : Below w.heap.size w w1) (hg : w.heap.size ≤ g) (hn : n ≤ 200000) (hm : m ≤ 40) (h0 : 0 ≤ lanes) (h9 : lanes ≤ 9) (D : DSx w1 B g K A n c w2) {l : List Int} (hl : l.length = m) (hrd : RdI w2 w2.heap.size Am l) :
    RunP w (.returned (.tuple #[.slice A n c, .int .i64 lanes, .slice Am m cm])) w2 := by
  obtain ⟨x, h1, h2, h3, h4⟩ := D
  obtain rfl := OC.len h1
  subst hl
  exact ⟨x, A, c, lanes, l, Am, cm, rfl, hn, hm, ⟨h0, h9⟩, OC.rd h1, hrd, hB.grown h3 hB.size (fun k e => by cases e; exact hg)⟩

theorem runs_c (A Am : Option Addr) (c cm : Nat) (l : List Cd) (n : Int) (m : List Int) (w : World) (hA : RdC w w.heap.size A l) (hM : RdI w w.heap.size Am m) (hl : l.length ≤ 1000000000) (hml : m.length ≤ 1000000000) :
    Calls Tryz.prog 9 #[.slice A l.length c, .int .i64 n, .slice Am m.length cm] w fun e w' => e = .returned (.bool (lockOk l n m)) ∧ Below w.heap.size w w' := by
  have HK := Lib.hid (show lockOk l n m = (pv l && (inR n 1 8 && memOk m)) from rfl)
  have HS := Lib.hid (fun W h => sMemoryValid_c Am cm m W h hml)
  generalize lockOk l n m = ok at *
  generalize memOk m = mo at *
  go_enter Tryz.func9, Tryz.ntmps9
  go_wp2_with fail
  refine (sProgramValid_c A c l w hA hl).mono ?_
  rintro e w1 ⟨rfl, b1⟩
  generalize pv l = p at *
  cases p with
  | false =>
    go_wp2
    go_ret
    exact ⟨by rw [HK.out]; rfl, b1⟩
  | true =>
    by_cases hr : 1 ≤ n ∧ n ≤ 8
    · have e1 : inR n 1 8 = true := inR_iff.2 hr
      rw [e1] at HK
      obtain ⟨h1, h8⟩ := hr
      clear e1
      go_wp2_with fail
      refine (HS.out w1 ((hM.below b1).more b1.size)).mono ?_
      rintro e w2 ⟨rfl, rfl⟩
      go_wp2
      go_ret
      exact ⟨by rw [HK.out]; simp, b1⟩
    · have e1 : inR n 1 8 = false := inR_not.2 (by omega)
      rw [e1] at HK
      by_cases h1 : 1 ≤ n
      · have h8 : ¬ n ≤ 8 := by omega
        clear hr e1
        go_wp2
        go_ret
        exact ⟨by rw [HK.out]; rfl, b1⟩
      · clear hr e1
        go_wp2
        go_ret
        exact ⟨by rw [HK.out]; rfl, b1⟩

def RunP2 (w : World) (e : Ending) (w' : World) : Prop :=
  ∃ (l : List Cd) (A : Option Addr) (c : Nat) (n : Int) (m : List Int) (Am : Option Addr) (cm : Nat), e = .returned (.tuple #[.slice A l.length c, .int .i64 n, .slice Am m.length cm]) ∧ l.length ≤ 200000 ∧ m.length ≤ 40 ∧ (0 ≤ n ∧ n ≤ 9) ∧ (A = none → c = 0) ∧ l.length ≤ c ∧
    RdC w' w'.heap.size A l ∧ RdI w' w'.heap.size Am m ∧ Below w.heap.size w w'
theorem OR.capR {w : World} {base e size n c : Nat} {A : Option Addr} {xs : List Value} (h : OR w base e size A n c xs) : n ≤ c := by
  rcases h.2 with ⟨hv, h0⟩ | ⟨g, cap, cur, hv, -, -, h4, -⟩
  · omega
  · injection hv with _ _ h3
    omega
theorem RunP2.of {w w1 w2 : World} {B g K n c m cm : Nat} {lanes : Int} {A Am : Option Addr} (hB : Below w.heap.size w w1) (hg : w.heap.size ≤ g) (hn : n ≤ 200000) (hm : m ≤ 40) (h0 : 0 ≤ lanes) (h9 : lanes ≤ 9) (D : DSx w1 B g K A n c w2) {l : List Int} (hl : l.length = m) (hrd : RdI w2 w2.heap.size Am l) :
    RunP2 w (.returned (.tuple #[.slice A n c, .int .i64 lanes, .slice Am m cm])) w2 := by
  obtain ⟨x, h1, h2, h3, h4⟩ := D
  obtain rfl := OC.len h1
  subst hl
  exact ⟨x, A, c, lanes, l, Am, cm, rfl, hn, hm, ⟨h0, h9⟩, fun e => OC.nilc h1 e, OR.capR h1, OC.rd h1, hrd, hB.grown h3 hB.size (fun k e => by cases e; exact hg)⟩


def goodB (n : Int) (os : List (List Int)) : Bool := decide (os.length ≤ 6) && os.all fun o => ordOk o n
theorem same_good {l : List Cd} {n : Int} {m : List Int} {os : List (List Int)} (h : sameB l n m os = true) : goodB n os = true := by
  simp only [sameB, goodB, Bool.and_eq_true] at h ⊢
  exact ⟨h.2.1, h.2.2.1⟩
theorem same_nil (l : List Cd) (n : Int) (m : List Int) : sameB l n m [] = lockOk l n m := by simp [sameB]
theorem same_safe {l : List Cd} {n : Int} {m : List Int} {os : List (List Int)} (h : reasonOf l n m = 0) (hg : goodB n os = true) : sameB l n m os = true := by
  simp only [goodB, Bool.and_eq_true] at hg
  obtain ⟨hok, -, -⟩ := safe_parts h
  obtain ⟨N, rfl, N1, N8, hp, hw, hm1, hm32⟩ := lock_parts hok
  have e : leastM l N m = runOf l N m := by
    have : leastM l N m = (runE l (allSch N) (Cw.start N m)).mem := by simp [leastM, hok]
    rw [this, safe_sch h (allSch_ok N8)]
  unfold sameB
  rw [hok, hg.1, hg.2]
  simp only [Bool.true_and]
  rw [List.all_eq_true] at hg ⊢
  intro o ho
  rw [e, safe_order h (hg.2 o ho)]
  exact intsEq_refl _

set_option maxRecDepth 100000 in
set_option maxHeartbeats 8000000 in
theorem fnSameMemory_c (w : World) (A : Option Addr) (c : Nat) (bs : List Int) (hA : Reads w w.heap.size 1 A bs.length (bs.map (.int .u8))) (hl : bs.length ≤ 9223372036854775807) (hb : ∀ x ∈ bs, 0 ≤ x ∧ x ≤ 255) (hcap : bs.length ≤ c) :
    Calls Tryz.prog 3 #[.slice A bs.length c] w fun e w' => e = .returned (.bool true) ∧ Below w.heap.size w w' := by
  by_cases hbig0 : 1048576 < bs.length
  · go_enter Tryz.func3, Tryz.ntmps3
    go_wp2
    go_ret
    exact ⟨rfl, Below.refl _ _⟩
  · go_enter Tryz.func3, Tryz.ntmps3
    go_wp2_with fail
    refine (drawSameMemory_c A c bs w hA hb hl hcap).mono ?_
    rintro e w1 ⟨l, A1, c1, n, mem, Ar, cr, os, P, pc, As, cs, rfl, hl2, ho7, hm40, hn9, hopc, hos, r1, rM, rP, hB⟩
    have HOS := Lib.hid hos
    have HI := Lib.hid (fun (W : World) (a : RdC W W.heap.size A1 l) (b : RdI W W.heap.size Ar mem) (d : RdO W W.heap.size P As cs os) => iSameMemory_c A1 Ar P c1 cr pc l n mem os W a b d (by omega) (by omega) (by omega) (fun i hi => by have := HOS.out i hi; omega))
    have HS := Lib.hid (fun (W : World) (a : RdC W W.heap.size A1 l) (b : RdI W W.heap.size Ar mem) (d : RdO W W.heap.size P As cs os) => sSameMemory_c A1 Ar P c1 cr pc l n mem os W a b d (by omega) (by omega) (by omega) (fun i hi => by have := HOS.out i hi; omega))
    have HN := Lib.hid (fun (W : World) (a : RdC W W.heap.size A1 l) (b : RdI W W.heap.size Ar mem) => iSameMemory_c A1 Ar none c1 cr 0 l n mem [] W a b (RdO.nil W W.heap.size (fun _ => none) (fun _ => 0)) (by omega) (by omega) (by decide) (fun i hi => absurd hi (by simp)))
    rw [same_nil] at HN
    have HR := Lib.hid (fun (W : World) (a : RdC W W.heap.size A1 l) (b : RdI W W.heap.size Ar mem) => runs_c A1 Ar c1 cr l n mem W a b (by omega) (by omega))
    have HSF := Lib.hid (fun (W : World) (a : RdC W W.heap.size A1 l) (b : RdI W W.heap.size Ar mem) => isSafe_c A1 Ar c1 cr l n mem W a b (by omega) (by omega))
    have HG1 := Lib.hid (fun h : sameB l n mem os = true => same_good h)
    have HG2 := Lib.hid (fun h : reasonOf l n mem = 0 => same_safe (os := os) h)
    generalize sameB l n mem os = B at *
    generalize reasonOf l n mem = rs at *
    generalize lockOk l n mem = lo at *
    clear hos
    go_wp2_with fail
    refine (HI.out w1 r1 rM rP).mono ?_
    rintro e w2 ⟨rfl, b2⟩
    replace r1 := (r1.below b2).more b2.size
    replace rM := (rM.below b2).more b2.size
    replace rP := (rP.below b2).more b2.size
    replace hB := below_trans hB (Nat.le_refl _) b2
    clear b2
    clear HI
    go_wp2_with fail
    refine (HS.out w2 r1 rM rP).mono ?_
    rintro e w3 ⟨rfl, b3⟩
    replace r1 := (r1.below b3).more b3.size
    replace rM := (rM.below b3).more b3.size
    replace rP := (rP.below b3).more b3.size
    replace hB := below_trans hB (Nat.le_refl _) b3
    clear b3
    have hne : (B != B) = false := by simp
    clear HS
    obtain ⟨g0, hg0⟩ : ∃ g0, decide (os.length ≤ 6) = g0 := ⟨_, rfl⟩
    have hg0I : decide ((os.length : Int) ≤ 6) = g0 := by rw [← hg0]; exact decide_eq_decide.2 (by omega)
    have HGD := Lib.hid (show goodB n os = (g0 && os.all fun o => ordOk o n) by rw [← hg0]; rfl)
    clear hg0
    go_wp2_with fail
    go_loopw [8, 9] (fun gv kv wr => ∃ k : Nat, k ≤ os.length ∧ kv = .int .i64 k ∧ gv = .bool (g0 && (os.take k).all fun o => ordOk o n) ∧ w3 = wr) (fun _ kv _ => os.length - (intOf kv).toNat)
    case atStart => exact ⟨0, Nat.zero_le _, rfl, by simp, rfl⟩
    case round =>
      obtain ⟨k, hk, rfl, rfl, rfl⟩ := hrel
      by_cases hlt : k < os.length
      · have hkI : (k : Int) < (os.length : Int) := by omega
        obtain ⟨pb, po, rfl, hpB, p0⟩ := rP.at_ hlt
        have hin := rP.inn k hlt
        have hpl := HOS.out k hlt
        have HT := Lib.hid (show (os.take (k + 1)).all (fun o => ordOk o n) = ((os.take k).all (fun o => ordOk o n) && ordOk (os.getD k []) n) by
          have e : os.getD k [] = os[k] := by simp [List.getD_eq_getElem?_getD, hlt]
          rw [List.take_succ_eq_append_getElem hlt, List.all_append, e]
          simp)
        generalize os.getD k [] = o at *
        cases hgc : (g0 && (os.take k).all fun o => ordOk o n) with
        | false =>
          have HF := Lib.hid (show (g0 && (os.take (k + 1)).all fun o => ordOk o n) = false by rw [HT.out, ← Bool.and_assoc, hgc]; rfl)
          clear hgc
          go_wp2
          go_roundw
          case rel => exact ⟨k + 1, by omega, by go_num, by rw [HF.out], by first | rfl | trivial⟩
          case measure => simp [intOf]; omega
        | true =>
          have HF := Lib.hid (show (g0 && (os.take (k + 1)).all fun o => ordOk o n) = ordOk o n by rw [HT.out, ← Bool.and_assoc, hgc]; rfl)
          clear hgc
          go_wp2_with fail
          refine (sOrderValid_c (As k) (cs k) o n w3 hin (by omega)).mono ?_
          rintro e wz ⟨rfl, rfl⟩
          go_wp2
          go_roundw
          case rel => exact ⟨k + 1, by omega, by go_num, by rw [HF.out], by first | rfl | trivial⟩
          case measure => simp [intOf]; omega
      · obtain rfl : k = os.length := by omega
        have HK := Lib.hid (show (g0 && (os.take os.length).all fun o => ordOk o n) = goodB n os by rw [HGD.out, List.take_length])
        rw [HK.out]
        generalize goodB n os = G at *
        clear HK HGD
        go_wp2_with fail
        refine (HN.out w3 r1 rM).mono ?_
        rintro e w4 ⟨rfl, b4⟩
        replace r1 := (r1.below b4).more b4.size
        replace rM := (rM.below b4).more b4.size
        replace rP := (rP.below b4).more b4.size
        replace hB := below_trans hB (Nat.le_refl _) b4
        clear b4
        go_wp2_with fail
        refine (HR.out w4 r1 rM).mono ?_
        rintro e w5 ⟨rfl, b5⟩
        replace r1 := (r1.below b5).more b5.size
        replace rM := (rM.below b5).more b5.size
        replace rP := (rP.below b5).more b5.size
        replace hB := below_trans hB (Nat.le_refl _) b5
        clear b5
        have hll : (lo == lo) = true := by simp
        clear HN HR
        cases B with
        | true =>
          obtain rfl : G = true := HG1.out rfl
          clear HG1 HG2 HSF
          go_wp2_with fail
          refine (alive_c _).mono ?_
          rintro e wz ⟨rfl, rfl⟩
          go_wp2
          go_ret
          exact ⟨rfl, hB⟩
        | false =>
          cases G with
          | false =>
            clear HG1 HG2 HSF
            go_wp2_with fail
            refine (alive_c _).mono ?_
            rintro e wz ⟨rfl, rfl⟩
            go_wp2
            go_ret
            exact ⟨rfl, hB⟩
          | true =>
            have hrn : (rs == 0) = false := by
              cases h : rs == 0 with
              | false => rfl
              | true => have := HG2.out (by simpa using h) rfl; cases this
            clear HG1 HG2
            go_wp2_with fail
            refine (HSF.out w5 r1 rM).mono ?_
            rintro e w6 ⟨rfl, b6⟩
            replace r1 := (r1.below b6).more b6.size
            replace rM := (rM.below b6).more b6.size
            replace rP := (rP.below b6).more b6.size
            replace hB := below_trans hB (Nat.le_refl _) b6
            clear b6
            rw [hrn]
            go_wp2_with fail
            refine (alive_c _).mono ?_
            rintro e wz ⟨rfl, rfl⟩
            go_wp2
            go_ret
            exact ⟨rfl, hB⟩

open Go.ChangeShapes Go.WideShapes Go.RowKit Go.Deep

theorem below_trodAll {H : Type} {enc : TypeId × Value → H} {P : Program} (hl : laidOutB P = true) {W W' : World} (hb : Below W.heap.size W W') :
    ∀ (ts : List TypeId) (vs : List Value) (ds : List (DataW H)) (ps : List MemPlace), ts.all (fun t => P.readableRec t && decide (t < P.types.size)) = true →
      DataW.TrodAll enc P W 0 (fun _ => true) true ts vs ds ps → (∀ x ∈ ps, x.block < W.heap.size) →
      DataW.TrodAll enc P W' 0 (fun b => decide (b < W.heap.size)) true ts vs ds ps
  | [], vs, ds, ps, _, h, _ => by
    obtain ⟨rfl, rfl, rfl⟩ := trodAll_nil h
    exact trodAll_mk0
  | t :: ts, vs, ds, ps, ht, h, hlt => by
    obtain ⟨v, vs', d, ds', p, q, rfl, rfl, rfl, h0, h1⟩ := trodAll_cons h
    simp only [List.all_cons, Bool.and_eq_true, decide_eq_true_eq] at ht
    exact trodAll_cons_mk (Below.trod hl ht.1.1 ht.1.2 h0 hb (fun x hx => hlt x (by simp [hx])))
      (below_trodAll hl hb ts vs' ds' q (by simpa using ht.2) h1 (fun x hx => hlt x (by simp [hx])))

section
variable {H : Type} {enc : TypeId × Value → H} {P : Program} {w : World}

theorem one_int {spare : Nat → Bool} {held : Bool} {base n : Nat} {t : TypeId} {k : IntKind} {v : Value} {y : DataW H × List MemPlace} (ht : P.underlying t = some (.int k)) (h : DataW.trod enc P w base spare held n t [v] = some y) : ∃ z, v = .int k z := by
  obtain ⟨z, e, _⟩ := DataW.trod_int ht h
  exact ⟨z, by simpa using e⟩

theorem cell_at {a : Addr} {v : Value} (h : w.cell? (a.add 0) = some v) : ∃ b off, a = ⟨b, off, none⟩ ∧ b < w.heap.size := by
  have hs := World.cell?_spot h
  have hb := World.block_lt_of_cell? w _ h
  rw [block_of_add] at hb
  obtain ⟨b, off, s⟩ := a
  have : s = none := by simpa [Addr.add] using hs
  subst this
  exact ⟨b, off, rfl, hb⟩

/-- A slice of one-cell numbers that came in. -/
theorem open_row1 {t e : TypeId} {k : IntKind} {r : Reach} {b0 : Nat} {v : Value} {d : DataW H} {p : List MemPlace} (ht : P.underlying t = some (.slice e)) (he : P.underlying e = some (.int k)) (hc : P.cellsOf e = 1)
    (hv : Value.okWide P w r b0 t v) (h : DataW.Trod enc P w 0 (fun _ => true) true t v d p) :
    ∃ (A : Option Addr) (c : Nat) (xs : List Int), v = .slice A xs.length c ∧ Reads w w.heap.size 1 A xs.length (xs.map (.int k)) ∧ xs.length ≤ 9223372036854775807 := by
  obtain ⟨a0, len, cap, rfl⟩ := okWide_slice ht hv
  obtain ⟨fuel, hf⟩ := h
  rcases open_ints ht he hc hf with ⟨hcs, hx⟩ | ⟨a, len', cap', zs, hcs, _, hl, hm, hz, hx, hcell, hwz⟩
  · simp [Value.cells] at hcs
    obtain ⟨rfl, rfl, rfl⟩ := hcs
    exact ⟨none, 0, [], rfl, Reads.none_, by simp⟩
  · simp [Value.cells] at hcs
    obtain ⟨rfl, rfl, rfl⟩ := hcs
    simp only [if_true] at hz
    unfold maxLen at hm
    have hlen : (zs.take len).length = len := by rw [List.length_take]; omega
    refine ⟨some a, cap, zs.take len, by rw [hlen], ⟨by simp, fun hn => ?_⟩, by omega⟩
    rw [hlen] at hn
    obtain ⟨b, off, rfl, hb⟩ := cell_at (hcell 0 (by omega))
    refine ⟨b, off, rfl, hb, fun j u hu => ?_⟩
    rw [List.getElem?_map, List.getElem?_take] at hu
    split at hu
    · have h1 := hcell j (by omega)
      rw [add_lit] at h1
      rw [h1, ← hu, List.getElem?_eq_getElem (by omega)]
      simp [List.getD, List.getElem?_eq_getElem (show j < zs.length by omega)]
    · simp at hu

/-- A slice of one-cell numbers that came in. -/
theorem open_bytes {t e : TypeId} {k : IntKind} {r : Reach} {b0 : Nat} {v : Value} {d : DataW H} {p : List MemPlace} (ht : P.underlying t = some (.slice e)) (he : P.underlying e = some (.int k)) (hc : P.cellsOf e = 1)
    (hv : Value.okWide P w r b0 t v) (h : DataW.Trod enc P w 0 (fun _ => true) true t v d p) :
    ∃ (A : Option Addr) (c : Nat) (xs : List Int), v = .slice A xs.length c ∧ Reads w w.heap.size 1 A xs.length (xs.map (.int k)) ∧ xs.length ≤ 9223372036854775807 ∧ (∀ x ∈ xs, (Lit.int k x).wf = true) ∧ xs.length ≤ c := by
  obtain ⟨a0, len, cap, rfl⟩ := okWide_slice ht hv
  obtain ⟨fuel, hf⟩ := h
  rcases open_ints ht he hc hf with ⟨hcs, hx⟩ | ⟨a, len', cap', zs, hcs, _, hl, hm, hz, hx, hcell, hwz⟩
  · simp [Value.cells] at hcs
    obtain ⟨rfl, rfl, rfl⟩ := hcs
    exact ⟨none, 0, [], rfl, Reads.none_, by simp, by simp, by simp⟩
  · simp [Value.cells] at hcs
    obtain ⟨rfl, rfl, rfl⟩ := hcs
    simp only [if_true] at hz
    unfold maxLen at hm
    have hlen : (zs.take len).length = len := by rw [List.length_take]; omega
    refine ⟨some a, cap, zs.take len, by rw [hlen], ⟨by simp, fun hn => ?_⟩, by omega, fun x hx => hwz x (List.mem_of_mem_take hx), by omega⟩
    rw [hlen] at hn
    obtain ⟨b, off, rfl, hb⟩ := cell_at (hcell 0 (by omega))
    refine ⟨b, off, rfl, hb, fun j u hu => ?_⟩
    rw [List.getElem?_map, List.getElem?_take] at hu
    split at hu
    · have h1 := hcell j (by omega)
      rw [add_lit] at h1
      rw [h1, ← hu, List.getElem?_eq_getElem (by omega)]
      simp [List.getD, List.getElem?_eq_getElem (show j < zs.length by omega)]
    · simp at hu

theorem wf_byte {x : Int} (h : (Lit.int .u8 x).wf = true) : 0 ≤ x ∧ x ≤ 255 := by
  simp [Lit.wf, IntKind.min, IntKind.max, IntKind.signed, IntKind.bits] at h
  omega

theorem row_of {n : Nat} {p : Nat → Value → Prop} (h : ∀ i, i < n → ∃ v, p i v) : ∃ f : Nat → Value, ∀ i, i < n → p i (f i) := by
  classical
  exact ⟨fun i => if hi : i < n then (h i hi).choose else .bool false, fun i hi => by simp only [dif_pos hi]; exact (h i hi).choose_spec⟩

/-- A slice of instructions that came in. -/
theorem open_codes {t e : TypeId} {f0 f1 f2 f3 : Field} {r : Reach} {b0 : Nat} {v : Value} {d : DataW H} {p : List MemPlace} (ht : P.underlying t = some (.slice e)) (he : P.underlying e = some (.struct #[f0, f1, f2, f3])) (hc : P.cellsOf e = 4)
    (e0 : P.underlying f0.type = some (.int .i64)) (e1 : P.underlying f1.type = some (.int .i64)) (e2 : P.underlying f2.type = some (.int .i64)) (e3 : P.underlying f3.type = some (.int .i64))
    (o0 : f0.offset = 0 ∧ P.cellsOf f0.type = 1) (o1 : f1.offset = 1 ∧ P.cellsOf f1.type = 1) (o2 : f2.offset = 2 ∧ P.cellsOf f2.type = 1) (o3 : f3.offset = 3 ∧ P.cellsOf f3.type = 1)
    (hv : Value.okWide P w r b0 t v) (h : DataW.Trod enc P w 0 (fun _ => true) true t v d p) :
    ∃ (A : Option Addr) (c : Nat) (l : List Cd), v = .slice A l.length c ∧ RdC w w.heap.size A l ∧ l.length ≤ 9223372036854775807 := by
  obtain ⟨a0, len, cap, rfl⟩ := okWide_slice ht hv
  obtain ⟨fuel, hf⟩ := h
  rcases open_slice ht hf with ⟨hcs, hx⟩ | ⟨a, len', cap', m, n, D, Pl, hcs, _, hl, hm, hmm, hx, hi⟩
  · simp [Value.cells] at hcs
    obtain ⟨rfl, rfl, rfl⟩ := hcs
    exact ⟨none, 0, [], rfl, Reads.none_, by simp⟩
  · simp [Value.cells] at hcs
    obtain ⟨rfl, rfl, rfl⟩ := hcs
    simp only [if_true] at hmm
    subst hmm
    unfold maxLen at hm
    rw [hc] at hi
    have key : ∀ i, i < len → ∃ x : Cd, ∀ j u, (cdCells x)[j]? = some u → w.cell? (a.add (i * 4 + j)) = some u := by
      intro i hil
      obtain ⟨cs', h1, h2⟩ := hi i (by omega)
      obtain ⟨_, hlen, hcell⟩ := World.cells?_some h1
      obtain ⟨xs, n', _, _, _, hxl, hg⟩ := DataW.trod_struct he h2
      match cs', hlen with
      | [c0, c1, c2, c3], _ =>
        match xs, hxl with
        | [y0, y1, y2, y3], _ =>
          have g0 := hg 0 f0 rfl
          have g1 := hg 1 f1 rfl
          have g2 := hg 2 f2 rfl
          have g3 := hg 3 f3 rfl
          rw [o0.1, o0.2] at g0
          rw [o1.1, o1.2] at g1
          rw [o2.1, o2.2] at g2
          rw [o3.1, o3.2] at g3
          obtain ⟨z0, rfl⟩ := one_int e0 (v := c0) (by simpa using g0)
          obtain ⟨z1, rfl⟩ := one_int e1 (v := c1) (by simpa using g1)
          obtain ⟨z2, rfl⟩ := one_int e2 (v := c2) (by simpa using g2)
          obtain ⟨z3, rfl⟩ := one_int e3 (v := c3) (by simpa using g3)
          refine ⟨⟨z0, z1, z2, z3⟩, fun j u hu => ?_⟩
          have hj : j < 4 := by
            have := (List.getElem?_eq_some_iff.1 hu).1
            simpa [cdCells] using this
          have h3 := hcell j hj
          rw [add_of_add] at h3
          rw [h3]
          exact hu
    have key2 : ∃ f : Nat → Cd, ∀ i, i < len → ∀ j u, (cdCells (f i))[j]? = some u → w.cell? (a.add (i * 4 + j)) = some u := by
      classical
      exact ⟨fun i => if hi : i < len then (key i hi).choose else ⟨0, 0, 0, 0⟩, fun i hi => by simp only [dif_pos hi]; exact (key i hi).choose_spec⟩
    obtain ⟨f, hf2⟩ := key2
    have hlen : ((List.range len).map f).length = len := by simp
    refine ⟨some a, m, (List.range len).map f, by rw [hlen], ⟨cdsCells_length _, fun hn => ?_⟩, by omega⟩
    rw [hlen] at hn
    obtain ⟨b, off, rfl, hb⟩ := cell_at (by simpa using hf2 0 hn 0 _ rfl)
    refine ⟨b, off, rfl, hb, fun j u hu => ?_⟩
    have hj : j < len * 4 := by
      have := (List.getElem?_eq_some_iff.1 hu).1
      rw [cdsCells_length, hlen] at this
      exact this
    have h4 : j / 4 < len := by omega
    have hg := cdsCells_get ((List.range len).map f) (j / 4) (f (j / 4)) (by simp [h4]) (j % 4) (by omega)
    rw [show j / 4 * 4 + j % 4 = j from by omega, hu] at hg
    have h3 := hf2 (j / 4) h4 (j % 4) u hg.symm
    rw [show j / 4 * 4 + j % 4 = j from by omega, add_lit] at h3
    exact h3
end

end Go.Proofs.YtelbfeidpcojmaaGreat
