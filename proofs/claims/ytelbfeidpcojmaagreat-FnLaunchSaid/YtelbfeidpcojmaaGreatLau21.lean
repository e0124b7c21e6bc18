/- Part 21 of what the claim needs. -/
import Derived.Test.YtelbfeidpcojmaaGreatLau2
import Derived.Test.YtelbfeidpcojmaaGreatLau6
import Derived.Test.YtelbfeidpcojmaaGreatLau10
import Derived.Test.YtelbfeidpcojmaaGreatLau20
import Derived.StillTailTactics
import Derived.IntWalk
import Derived.Deep.RegionLaw
import Derived.Deep.AppendLies
import Derived.Deep.CutRange
import Derived.Deep.Cut
namespace Go.Proofs.YtelbfeidpcojmaaGreat
open Go.RowKit
set_option linter.unusedVariables false
set_option linter.unusedSimpArgs false

/-- Where the parts of a crowd lie. -/
structure Gm where
  lb : Nat
  lc : Nat
  R : Nat → Nat
  RC : Nat → Nat
  T : Nat → Option Nat
  TC : Nat → Nat
  mb : Nat
  mc : Nat
def adr (t : Option Nat) : Option Addr := t.map fun b => ⟨b, 0, none⟩
theorem own_adr (t : Option Nat) (n c : Nat) : Value.ownBlock (.slice (adr t) n c) = t := by cases t <;> rfl
def laneCell (z : Gm) (k : Nat) (s : Ln) : Nat → Value
  | 0 => .slice (some ⟨z.R k, 0, none⟩) 4 (z.RC k)
  | 1 => .int .i64 s.pos
  | 2 => .slice (adr (z.T k)) s.turns.length (z.TC k)
  | _ => .bool s.waits
def lanesV (z : Gm) (n : Nat) (f : Nat → Ln) : List Value := (List.range (n * 4)).map fun i => laneCell z (i / 4) (f (i / 4)) (i % 4)
theorem lanesV_len (z : Gm) (n : Nat) (f : Nat → Ln) : (lanesV z n f).length = n * 4 := by simp [lanesV]
theorem lanesV_get (z : Gm) (n : Nat) (f : Nat → Ln) {k j : Nat} (hk : k < n) (hj : j < 4) : (lanesV z n f)[k * 4 + j]? = some (laneCell z k (f k) j) := by
  have h1 : (k * 4 + j) / 4 = k := by omega
  have h2 : (k * 4 + j) % 4 = j := by omega
  have h3 : k * 4 + j < n * 4 := by omega
  simp [lanesV, h1, h2, h3]
/-- One cell of one lane is another. -/
theorem lanesV_set {z z' : Gm} {n : Nat} {f f' : Nat → Ln} {k j : Nat} {v : Value} (hk : k < n) (hj : j < 4) (hv : laneCell z' k (f' k) j = v) (hsame : ∀ i, i < 4 → i ≠ j → laneCell z' k (f' k) i = laneCell z k (f k) i) (hoth : ∀ i, i < n → i ≠ k → ∀ q, q < 4 → laneCell z' i (f' i) q = laneCell z i (f i) q) :
    (lanesV z n f).set (k * 4 + j) v = lanesV z' n f' := by
  apply List.ext_getElem?
  intro i
  by_cases hi : i < n * 4
  · have h1 : i / 4 < n := by omega
    have h2 : i % 4 < 4 := Nat.mod_lt _ (by decide)
    have h3 : i / 4 * 4 + i % 4 = i := by omega
    have g1 := lanesV_get z n f h1 h2
    have g2 := lanesV_get z' n f' h1 h2
    rw [h3] at g1 g2
    rw [g2, List.getElem?_set]
    by_cases e : k * 4 + j = i
    · rw [if_pos e, if_pos (by rw [lanesV_len]; omega)]
      have e1 : i / 4 = k := by omega
      have e2 : i % 4 = j := by omega
      rw [e1, e2, hv]
    · rw [if_neg e, g1]
      by_cases e1 : i / 4 = k
      · rw [e1, hsame _ h2 (by intro e2; omega)]
      · rw [hoth _ h1 e1 _ h2]
  · rw [List.getElem?_eq_none (by rw [List.length_set, lanesV_len]; omega), List.getElem?_eq_none (by rw [lanesV_len]; omega)]
theorem lanesV_congr {z z' : Gm} {n : Nat} {f f' : Nat → Ln} (h : ∀ i, i < n → ∀ q, q < 4 → laneCell z' i (f' i) q = laneCell z i (f i) q) : lanesV z' n f' = lanesV z n f := by
  apply List.ext_getElem?
  intro i
  by_cases hi : i < n * 4
  · have h1 : i / 4 < n := by omega
    have h2 : i % 4 < 4 := Nat.mod_lt _ (by decide)
    have h3 : i / 4 * 4 + i % 4 = i := by omega
    have g1 := lanesV_get z n f h1 h2
    have g2 := lanesV_get z' n f' h1 h2
    rw [h3] at g1 g2
    rw [g1, g2, h _ h1 _ h2]
  · rw [List.getElem?_eq_none (by rw [lanesV_len]; omega), List.getElem?_eq_none (by rw [lanesV_len]; omega)]
theorem lanesV_snoc (z : Gm) (n : Nat) (f : Nat → Ln) : lanesV z (n + 1) f = lanesV z n f ++ [laneCell z n (f n) 0, laneCell z n (f n) 1, laneCell z n (f n) 2, laneCell z n (f n) 3] := by
  apply List.ext_getElem?
  intro i
  by_cases hi : i < n * 4
  · rw [List.getElem?_append_left (by rw [lanesV_len]; exact hi)]
    have h1 : i / 4 < n := by omega
    have h2 : i % 4 < 4 := Nat.mod_lt _ (by decide)
    have h3 : i / 4 * 4 + i % 4 = i := by omega
    have g1 := lanesV_get z n f h1 h2
    have g2 := lanesV_get z (n + 1) f (show i / 4 < n + 1 by omega) h2
    rw [h3] at g1 g2
    rw [g1, g2]
  · rw [List.getElem?_append_right (by rw [lanesV_len]; omega), lanesV_len]
    by_cases h4 : i < (n + 1) * 4
    · have g2 := lanesV_get z (n + 1) f (show n < n + 1 by omega) (show i - n * 4 < 4 by omega)
      rw [show n * 4 + (i - n * 4) = i by omega] at g2
      rw [g2]
      have : i - n * 4 = 0 ∨ i - n * 4 = 1 ∨ i - n * 4 = 2 ∨ i - n * 4 = 3 := by omega
      rcases this with e | e | e | e <;> rw [e] <;> rfl
    · rw [List.getElem?_eq_none (by rw [lanesV_len]; omega), List.getElem?_eq_none (by simp; omega)]

/-- A crowd of n lanes in memory. -/
structure CM (O : Nat → Prop) (w : World) (B n : Nat) (z : Gm) (c : Cw) : Prop where
  row : OR w B 84 4 (some ⟨z.lb, 0, none⟩) n z.lc (lanesV z n c.lane)
  regs : ∀ k, k < n → OI w B (some ⟨z.R k, 0, none⟩) 4 (z.RC k) (c.lane k).regs
  turns : ∀ k, k < n → OI w B (adr (z.T k)) (c.lane k).turns.length (z.TC k) (c.lane k).turns
  mem : OI w B (some ⟨z.mb, 0, none⟩) c.mem.length z.mc c.mem
  rm : ∀ k, k < n → z.R k ≠ z.mb
  rr : ∀ j k, j < n → k < n → z.R j = z.R k → j = k
  tm : ∀ k, k < n → z.T k ≠ some z.mb
  tr : ∀ j k, j < n → k < n → z.T j ≠ some (z.R k)
  tt : ∀ j k q, j < n → k < n → z.T j = some q → z.T k = some q → j = k
  olb : O z.lb
  omb : O z.mb
  oR : ∀ k, k < n → O (z.R k)
  oT : ∀ k q, k < n → z.T k = some q → O q
  of : ∀ q, w.heap.size ≤ q → O q

section
variable {O : Nat → Prop} {w w' : World} {B n : Nat} {z : Gm} {c : Cw}
theorem CM.ext (h : CM O w B n z c) (hx : Ext w w') : CM O w' B n z c :=
  ⟨h.row.ext hx, fun k hk => OR.ext (h.regs k hk) hx, fun k hk => OR.ext (h.turns k hk) hx, OR.ext h.mem hx, h.rm, h.rr, h.tm, h.tr, h.tt, h.olb, h.omb, h.oR, h.oT, fun q hq => h.of q (Nat.le_trans hx.size hq)⟩
theorem CM.lt (h : CM O w B n z c) : B ≤ z.lb ∧ z.lb < w.heap.size := OR.base_le h.row
theorem CM.heap (h : CM O w B n z c) : ∃ cur, w.heap[z.lb]? = some (.cells cur 84 (0, 0)) := OR.heap_ h.row
theorem CM.cells (h : CM O w B n z c) {k : Nat} (hk : k < n) : w.cell? ⟨z.lb, k * 4, none⟩ = some (.slice (some ⟨z.R k, 0, none⟩) 4 (z.RC k)) ∧ w.cell? ⟨z.lb, k * 4 + 1, none⟩ = some (.int .i64 (c.lane k).pos) ∧
    w.cell? ⟨z.lb, k * 4 + 2, none⟩ = some (.slice (adr (z.T k)) (c.lane k).turns.length (z.TC k)) ∧ w.cell? ⟨z.lb, k * 4 + 3, none⟩ = some (.bool (c.lane k).waits) := by
  have h0 := (OR.at0 h.row).1
  exact ⟨h0 _ _ (lanesV_get z n c.lane hk (by decide : 0 < 4)), h0 _ _ (lanesV_get z n c.lane hk (by decide : 1 < 4)), h0 _ _ (lanesV_get z n c.lane hk (by decide : 2 < 4)), h0 _ _ (lanesV_get z n c.lane hk (by decide : 3 < 4))⟩
theorem CM.free (h : CM O w B n z c) (j : Nat) : w.frozen? ⟨z.lb, j, none⟩ = false := by
  obtain ⟨cur, hc⟩ := h.heap
  exact free_of_heap hc j
theorem CM.reg (h : CM O w B n z c) {k : Nat} (hk : k < n) {a : Nat} (ha : a ≤ 3) (h4 : (c.lane k).regs.length = 4) : w.cell? ⟨z.R k, a, none⟩ = some (.int .i64 (rg (c.lane k).regs a)) := (OI.at0 (h.regs k hk)).1 a _ (rg_get h4 ha)

/-- Nothing below B is turned, and no block but that of the lanes and those of numbers. -/
structure StC (O : Nat → Prop) (B : Nat) (w w' : World) : Prop where
  bel : Below B w w'
  byt : ∀ (k : Nat) (cs : Array Value) (t : TypeId), t ≠ 3 → t ≠ 84 → w.heap[k]? = some (.cells cs t (0, 0)) → w'.heap[k]? = some (.cells cs t (0, 0))
  off : ∀ q, q < w.heap.size → ¬ O q → w'.heap[q]? = w.heap[q]?
theorem StC.refl (B : Nat) (w : World) : StC O B w w := ⟨Below.refl _ _, fun _ _ _ _ _ h => h, fun _ _ _ => rfl⟩
theorem StC.trans {a b d : World} (h : StC O B a b) (k : StC O B b d) : StC O B a d := ⟨h.bel.trans k.bel, fun i cs t h1 h2 hi => k.byt i cs t h1 h2 (h.byt i cs t h1 h2 hi), fun q hq hn => (k.off q (Nat.lt_of_lt_of_le hq h.bel.size) hn).trans (h.off q hq hn)⟩
theorem StC.of_ext (h : Ext w w') (hB : B ≤ w.heap.size) : StC O B w w' := ⟨h.below.mono hB, fun _ _ _ _ _ hk => h.heap_ hk, fun q hq _ => h.block q hq⟩
theorem StC.size (h : StC O B w w') : w.heap.size ≤ w'.heap.size := h.bel.size

/-- The crowd with another bound of what may be turned. -/
theorem CM.reO {O' : Nat → Prop} (h : CM O w B n z c) (h1 : O' z.lb) (h2 : O' z.mb) (h3 : ∀ k, k < n → O' (z.R k)) (h4 : ∀ k q, k < n → z.T k = some q → O' q) (h5 : ∀ q, w.heap.size ≤ q → O' q) : CM O' w B n z c :=
  ⟨h.row, h.regs, h.turns, h.mem, h.rm, h.rr, h.tm, h.tr, h.tt, h1, h2, h3, h4, h5⟩
theorem CM.more {g : Nat} (h : CM (fun q => O q ∧ q ≠ g) w B n z c) (hO : O g) : CM O w B n z c :=
  h.reO h.olb.1 h.omb.1 (fun k hk => (h.oR k hk).1) (fun k q hk hq => (h.oT k q hk hq).1) (fun q hq => (h.of q hq).1)
theorem StC.more {O' : Nat → Prop} (h : StC O' B w w') (hO : ∀ q, O' q → O q) : StC O B w w' := ⟨h.bel, h.byt, fun q hq hn => h.off q hq (fun h' => hn (hO q h'))⟩

/-- A store of the place or of the waiting of a lane. -/
theorem CM.put (h : CM O w B n z c) (hB : B ≤ w.heap.size) {k j : Nat} {v : Value} {c' : Cw} (hk : k < n) (hj : j < 4) (hv : laneCell z k (c'.lane k) j = v) (hsame : ∀ i, i < 4 → i ≠ j → laneCell z k (c'.lane k) i = laneCell z k (c.lane k) i)
    (hoth : ∀ i, i < n → i ≠ k → c'.lane i = c.lane i) (hr : (c'.lane k).regs = (c.lane k).regs) (ht : (c'.lane k).turns = (c.lane k).turns) (hm : c'.mem = c.mem) :
    CM O (w.setCell ⟨z.lb, k * 4 + j, none⟩ v) B n z c' ∧ StC O B w (w.setCell ⟨z.lb, k * 4 + j, none⟩ v) := by
  obtain ⟨cur, hblk⟩ := h.heap
  have oi : ∀ {A : Option Addr} {m cc : Nat} {xs : List Int}, OI w B A m cc xs → OI (w.setCell ⟨z.lb, k * 4 + j, none⟩ v) B A m cc xs := fun ho => OR.set_other ho (p := ⟨z.lb, k * 4 + j, none⟩) (own_ne ho hblk (by decide)) _
  have hl : ∀ i, i < n → (c'.lane i).regs = (c.lane i).regs ∧ (c'.lane i).turns = (c.lane i).turns := fun i hi => by
    by_cases e : i = k
    · subst e; exact ⟨hr, ht⟩
    · rw [hoth i hi e]; exact ⟨rfl, rfl⟩
  refine ⟨⟨?_, fun i hi => ?_, fun i hi => ?_, ?_, h.rm, h.rr, h.tm, h.tr, h.tt, h.olb, h.omb, h.oR, h.oT, fun q hq => h.of q (by rw [size_set] at hq; exact hq)⟩, ⟨(Below.refl _ _).setCell h.lt.1 _, fun i cs t h1 h2 hi => (heap_set_other (type_ne hi hblk h2) _ _).trans hi, fun q _ hn => heap_set_other (fun e => hn (by rw [e]; exact h.olb)) _ _⟩⟩
  · have := (OR.at0 h.row).2.2 (k * 4 + j) v
    rw [lanesV_set (z' := z) (f' := c'.lane) hk hj hv hsame (fun i hi e q _ => by rw [hoth i hi e])] at this
    exact this
  · rw [(hl i hi).1]; exact oi (h.regs i hi)
  · rw [(hl i hi).2]; exact oi (h.turns i hi)
  · rw [hm]; exact oi h.mem

/-- Registers of a lane and the memory are others. -/
theorem CM.simp (h : CM O w B n z c) (hB : B ≤ w.heap.size) {k mn : Nat} (hk : k < n) (hmn : mn = c.mem.length) {x : Cd} {c' : Cw}
    (hs : Simp1 w B (z.R k) (z.RC k) z.mb mn z.mc x k (c.lane k).regs c.mem w') (hr : (c'.lane k).regs = (simp1 x k (c.lane k).regs c.mem).1) (hmem : c'.mem = (simp1 x k (c.lane k).regs c.mem).2)
    (hk2 : (c'.lane k).pos = (c.lane k).pos ∧ (c'.lane k).turns = (c.lane k).turns ∧ (c'.lane k).waits = (c.lane k).waits) (hoth : ∀ i, i < n → i ≠ k → c'.lane i = c.lane i) : CM O w' B n z c' ∧ StC O B w w' := by
  subst hmn
  obtain ⟨h1, h2, h3⟩ := hs
  obtain ⟨cr, hcr⟩ := OR.heap_ (h.regs k hk)
  obtain ⟨cm, hcm⟩ := OR.heap_ h.mem
  have hl := simp1_len x k (c.lane k).regs c.mem
  have hb : Below B w w' := h3.below (OR.block (h.regs k hk) _ rfl).1 (OR.block h.mem _ rfl).1 hB
  have hbt : ∀ (i : Nat) (cs : Array Value) (t : TypeId), t ≠ 3 → w.heap[i]? = some (.cells cs t (0, 0)) → w'.heap[i]? = some (.cells cs t (0, 0)) := fun i cs t ht hi => (h3.block i (lt_of_block hi) (type_ne hi hcr ht) (type_ne hi hcm ht)).trans hi
  refine ⟨⟨?_, fun i hi => ?_, fun i hi => ?_, ?_, h.rm, h.rr, h.tm, h.tr, h.tt, h.olb, h.omb, h.oR, h.oT, fun q hq => h.of q (Nat.le_trans hb.size hq)⟩, ⟨hb, fun i cs t h1 _ hi => hbt i cs t h1 hi, fun q hq hn => h3.block q hq (fun e => hn (by rw [e]; exact h.oR k hk)) (fun e => hn (by rw [e]; exact h.omb))⟩⟩
  · have e : lanesV z n c'.lane = lanesV z n c.lane := lanesV_congr fun i hi q _ => by
      by_cases e : i = k
      · subst e
        have : q = 0 ∨ q = 1 ∨ q = 2 ∨ 3 ≤ q := by omega
        rcases this with rfl | rfl | rfl | h3
        · rfl
        · simp only [laneCell, hk2.1]
        · simp only [laneCell, hk2.2.1]
        · match q, h3 with
          | q + 3, _ => simp only [laneCell, hk2.2.2]
      · rw [hoth i hi e]
    rw [e]
    exact h.row.byType fun b cs hi => hbt b cs _ (by decide) hi
  · by_cases e : i = k
    · subst e
      rw [hr]; exact h1
    · rw [hoth i hi e]
      exact OR.off (h.regs i hi) h3 (fun e2 => e (h.rr i k hi hk (by injection e2))) (fun e2 => h.rm i hi (by injection e2))
  · have ht : (c'.lane i).turns = (c.lane i).turns := by
      by_cases e : i = k
      · subst e; exact hk2.2.1
      · rw [hoth i hi e]
    rw [ht]
    refine OR.off (h.turns i hi) h3 (fun e2 => ?_) (fun e2 => ?_)
    · rw [own_adr] at e2; exact h.tr i k hi hk e2
    · rw [own_adr] at e2; exact h.tm i hi e2
  · rw [hmem]
    have : (simp1 x k (c.lane k).regs c.mem).2.length = c.mem.length := hl.2
    rw [this]
    exact h2

/-- A turn more, behind an append. -/
theorem CM.push {wb w2 : World} (h : CM O w B n z c) (hX : Ext w wb) (hB : B ≤ w.heap.size) {k g cap : Nat} {v : Int} {c' : Cw} (hk : k < n) (hg : wb.grownBy w2 (z.T k))
    (ho : OI w2 B (some ⟨g, 0, none⟩) ((c.lane k).turns.length + 1) cap ((c.lane k).turns ++ [v])) (hat : z.T k = some g ∨ wb.heap.size ≤ g)
    (ht : (c'.lane k).turns = (c.lane k).turns ++ [v]) (hk2 : (c'.lane k).regs = (c.lane k).regs ∧ (c'.lane k).pos = (c.lane k).pos ∧ (c'.lane k).waits = (c.lane k).waits) (hoth : ∀ i, i < n → i ≠ k → c'.lane i = c.lane i) (hm : c'.mem = c.mem) :
    CM O (w2.setCell ⟨z.lb, k * 4 + 2, none⟩ (.slice (some ⟨g, 0, none⟩) ((c.lane k).turns.length + 1) cap)) B n { z with T := fun j => if j = k then some g else z.T j, TC := fun j => if j = k then cap else z.TC j } c' ∧
      StC O B w (w2.setCell ⟨z.lb, k * 4 + 2, none⟩ (.slice (some ⟨g, 0, none⟩) ((c.lane k).turns.length + 1) cap)) := by
  have hb := h.ext hX
  obtain ⟨cur, hblk⟩ := hb.heap
  have hTk : ∀ q, z.T k = some q → B ≤ q ∧ q < wb.heap.size := fun q hq => OR.block (hb.turns k hk) q (by rw [own_adr]; exact hq)
  have kp : ∀ i, i < wb.heap.size → z.T k ≠ some i → w2.heap[i]? = wb.heap[i]? := fun i hi hne => hg.block i hi (fun e => hne e.symm)
  have hblk2 : w2.heap[z.lb]? = some (.cells cur 84 (0, 0)) := (kp _ hb.lt.2 (fun e => by
    have := own_ne (hb.turns k hk) hblk (by decide)
    rw [own_adr] at this
    exact this e)).trans hblk
  have oi : ∀ {A : Option Addr} {m cc : Nat} {xs : List Int}, OI wb B A m cc xs → (∀ q, Value.ownBlock (.slice A m cc) = some q → z.T k ≠ some q) → OI (w2.setCell ⟨z.lb, k * 4 + 2, none⟩ (.slice (some ⟨g, 0, none⟩) ((c.lane k).turns.length + 1) cap)) B A m cc xs := fun {A m cc xs} hx hne => by
    have h1 : OI w2 B A m cc xs := by
      refine OR.kept hx hg ?_
      cases hob : Value.ownBlock (.slice A m cc) with
      | none => exact .inl rfl
      | some q => exact .inr (fun e => hne q hob e.symm)
    exact OR.set_other h1 (p := ⟨z.lb, k * 4 + 2, none⟩) (own_ne h1 hblk2 (by decide)) _
  have hRlt : ∀ i, i < n → z.R i < wb.heap.size := fun i hi => (OR.base_le (hb.regs i hi)).2
  have hmlt : z.mb < wb.heap.size := (OR.base_le hb.mem).2
  have hTlt : ∀ i q, i < n → z.T i = some q → q < wb.heap.size := fun i q hi hq => (OR.block (hb.turns i hi) q (by rw [own_adr]; exact hq)).2
  have hrow2 : OR w2 B 84 4 (some ⟨z.lb, 0, none⟩) n z.lc (lanesV z n c.lane) := OR.kept hb.row hg (.inr fun e => by
    have := own_ne (hb.turns k hk) hblk (by decide)
    rw [own_adr] at this
    exact this e.symm)
  have hlst : Below B wb w2 := ⟨hg.os, hg.tape, hg.output, hg.size, fun i hi => kp i (by have := hX.size; omega) (fun e => by have := (hTk i e).1; omega)⟩
  have hoT : ∀ i q, i < n → (if i = k then some g else z.T i) = some q → O q := fun i q hi hq => by
    by_cases e : i = k
    · rw [if_pos e] at hq
      have hq := Option.some.inj hq
      subst hq
      rcases hat with h1 | h1
      · exact h.oT k g hk h1
      · exact h.of g (Nat.le_trans hX.size h1)
    · rw [if_neg e] at hq
      exact h.oT i q hi hq
  refine ⟨⟨?_, fun i hi => ?_, fun i hi => ?_, ?_, h.rm, h.rr, fun i hi => ?_, fun i j hi hj => ?_, fun i j q hi hj => ?_, h.olb, h.omb, h.oR, hoT, fun q hq => h.of q (by rw [size_set] at hq; exact Nat.le_trans hX.size (Nat.le_trans hg.size hq))⟩, ⟨(((hX.below).mono hB).trans hlst).setCell h.lt.1 _, fun i cs t h1 h2 hi => ?_, fun q hq hn => (heap_set_other (fun e => hn (by rw [e]; exact h.olb)) _ _).trans ((kp q (Nat.lt_of_lt_of_le hq hX.size) (fun e => hn (h.oT k q hk e))).trans (hX.block q hq))⟩⟩
  · have := (OR.at0 hrow2).2.2 (k * 4 + 2) (.slice (some ⟨g, 0, none⟩) ((c.lane k).turns.length + 1) cap)
    rw [lanesV_set (z' := { z with T := fun j => if j = k then some g else z.T j, TC := fun j => if j = k then cap else z.TC j }) (f' := c'.lane) hk (by decide) ?_ (fun i hi hne => ?_) (fun i hi hne q _ => ?_)] at this
    · exact this
    · simp only [laneCell, if_true, ht]
      simp [adr]
    · have : i = 0 ∨ i = 1 ∨ i = 3 := by omega
      rcases this with rfl | rfl | rfl
      · rfl
      · simp only [laneCell, hk2.2.1]
      · simp only [laneCell, hk2.2.2]
    · rw [hoth i hi hne]
      have : q = 0 ∨ q = 1 ∨ q = 2 ∨ 3 ≤ q := by omega
      rcases this with rfl | rfl | rfl | h3
      · rfl
      · rfl
      · simp only [laneCell, hne, if_false]
      · match q, h3 with
        | q + 3, _ => rfl
  · have e : (c'.lane i).regs = (c.lane i).regs := by
      by_cases e : i = k
      · subst e; exact hk2.1
      · rw [hoth i hi e]
    rw [e]
    refine oi (hb.regs i hi) (fun q hq => ?_)
    have : q = z.R i := by injection hq with hq; exact hq.symm
    subst this
    exact h.tr k i hk hi
  · by_cases e : i = k
    · subst e
      simp only [if_true]
      rw [ht]
      have hl : ((c.lane i).turns ++ [v]).length = (c.lane i).turns.length + 1 := by simp
      rw [hl]
      exact OR.set_other ho (p := ⟨z.lb, i * 4 + 2, none⟩) (own_ne ho hblk2 (by decide)) _
    · simp only [e, if_false]
      rw [hoth i hi e]
      refine oi (hb.turns i hi) (fun q hq hq2 => ?_)
      rw [own_adr] at hq
      exact e (h.tt i k q hi hk hq hq2)
  · rw [hm]
    refine oi hb.mem (fun q hq => ?_)
    have : q = z.mb := by injection hq with hq; exact hq.symm
    subst this
    exact h.tm k hk
  · by_cases e : i = k
    · subst e
      simp only [if_true]
      intro e2
      have e3 := Option.some.inj e2
      rcases hat with h1 | h1
      · exact h.tm i hk (by rw [h1, e3])
      · omega
    · simp only [e, if_false]; exact h.tm i hi
  · by_cases e : i = k
    · subst e
      simp only [if_true]
      intro e2
      have e3 := Option.some.inj e2
      rcases hat with h1 | h1
      · exact h.tr i j hk hj (by rw [h1, e3])
      · have := hRlt j hj; omega
    · simp only [e, if_false]; exact h.tr i j hi hj
  · by_cases e1 : i = k <;> by_cases e2 : j = k <;> simp only [e1, e2, if_true, if_false]
    · intro _ _; trivial
    · intro h3 h4
      have h3 := Option.some.inj h3
      subst h3
      rcases hat with h1 | h1
      · exact absurd (h.tt k j _ hk hj h1 h4) (fun e => e2 e.symm)
      · have := hTlt j _ hj h4; omega
    · intro h3 h4
      have h4 := Option.some.inj h4
      subst h4
      rcases hat with h1 | h1
      · exact absurd (h.tt i k _ hi hk h3 h1) e1
      · have := hTlt i _ hi h3; omega
    · exact h.tt i j q hi hj
  · have hib := hX.heap_ hi
    have h3 : w2.heap[i]? = some (.cells cs t (0, 0)) := (kp i (lt_of_block hib) (fun e => by
      have := own_ne (hb.turns k hk) hib (Ne.symm h1)
      rw [own_adr] at this
      exact this e)).trans hib
    rw [heap_set_other (type_ne h3 hblk2 h2)]
    exact h3

/-- The last turn is another. -/
theorem CM.dec (h : CM O w B n z c) {k b j : Nat} {v : Int} {c' : Cw} (hk : k < n) (hT : z.T k = some b) (hj : j < (c.lane k).turns.length)
    (ht : (c'.lane k).turns = (c.lane k).turns.set j v) (hk2 : (c'.lane k).regs = (c.lane k).regs ∧ (c'.lane k).pos = (c.lane k).pos ∧ (c'.lane k).waits = (c.lane k).waits) (hoth : ∀ i, i < n → i ≠ k → c'.lane i = c.lane i) (hm : c'.mem = c.mem) :
    CM O (w.setCell ⟨b, j, none⟩ (.int .i64 v)) B n z c' ∧ StC O B w (w.setCell ⟨b, j, none⟩ (.int .i64 v)) := by
  have hTk := h.turns k hk
  rw [hT] at hTk
  have hTk' : OI w B (some ⟨b, 0, none⟩) (c.lane k).turns.length (z.TC k) (c.lane k).turns := hTk
  obtain ⟨cb, hcb⟩ := OR.heap_ hTk'
  have hbB := (OR.base_le hTk').1
  have oi : ∀ {A : Option Addr} {m cc : Nat} {xs : List Int}, OI w B A m cc xs → Value.ownBlock (.slice A m cc) ≠ some b → OI (w.setCell ⟨b, j, none⟩ (.int .i64 v)) B A m cc xs := fun ho hne => OR.set_other ho (p := ⟨b, j, none⟩) hne _
  refine ⟨⟨?_, fun i hi => ?_, fun i hi => ?_, ?_, h.rm, h.rr, h.tm, h.tr, h.tt, h.olb, h.omb, h.oR, h.oT, fun q hq => h.of q (by rw [size_set] at hq; exact hq)⟩, ⟨(Below.refl _ _).setCell hbB _, fun i cs t h1 _ hi => (heap_set_other (type_ne hi hcb h1) _ _).trans hi, fun q _ hn => heap_set_other (fun e => hn (by rw [e]; exact h.oT k b hk hT)) _ _⟩⟩
  · have e : lanesV z n c'.lane = lanesV z n c.lane := lanesV_congr fun i hi q _ => by
      by_cases e : i = k
      · subst e
        have : q = 0 ∨ q = 1 ∨ q = 2 ∨ 3 ≤ q := by omega
        rcases this with rfl | rfl | rfl | h3
        · rfl
        · simp only [laneCell, hk2.2.1]
        · simp only [laneCell, ht, List.length_set]
        · match q, h3 with
          | q + 3, _ => simp only [laneCell, hk2.2.2]
      · rw [hoth i hi e]
    rw [e]
    exact OR.set_other h.row (p := ⟨b, j, none⟩) (own_ne h.row hcb (by decide)) _
  · have e : (c'.lane i).regs = (c.lane i).regs := by
      by_cases e : i = k
      · subst e; exact hk2.1
      · rw [hoth i hi e]
    rw [e]
    exact oi (h.regs i hi) (fun e => h.tr k i hk hi (by rw [hT]; injection e with e; exact congrArg some e.symm))
  · by_cases e : i = k
    · subst e
      rw [ht, hT, List.length_set]
      have := (OR.at0 hTk').2.2 j (.int .i64 v)
      unfold OI
      rw [List.map_set]
      exact this
    · rw [hoth i hi e]
      refine oi (h.turns i hi) (fun e2 => ?_)
      rw [own_adr] at e2
      exact e (h.tt i k b hi hk e2 hT)
  · rw [hm]
    exact oi h.mem (fun e => h.tm k hk (by rw [hT]; injection e with e; exact congrArg some e.symm))

/-- The last turn is gone. -/
theorem CM.pop (h : CM O w B n z c) {k : Nat} {c' : Cw} (hk : k < n)
    (ht : (c'.lane k).turns = (c.lane k).turns.dropLast) (hk2 : (c'.lane k).regs = (c.lane k).regs ∧ (c'.lane k).pos = (c.lane k).pos ∧ (c'.lane k).waits = (c.lane k).waits) (hoth : ∀ i, i < n → i ≠ k → c'.lane i = c.lane i) (hm : c'.mem = c.mem) :
    CM O (w.setCell ⟨z.lb, k * 4 + 2, none⟩ (.slice (adr (z.T k)) ((c.lane k).turns.length - 1) (z.TC k))) B n z c' ∧ StC O B w (w.setCell ⟨z.lb, k * 4 + 2, none⟩ (.slice (adr (z.T k)) ((c.lane k).turns.length - 1) (z.TC k))) := by
  obtain ⟨cur, hblk⟩ := h.heap
  have oi : ∀ {A : Option Addr} {m cc : Nat} {xs : List Int}, OI w B A m cc xs → OI (w.setCell ⟨z.lb, k * 4 + 2, none⟩ (.slice (adr (z.T k)) ((c.lane k).turns.length - 1) (z.TC k))) B A m cc xs := fun ho => OR.set_other ho (p := ⟨z.lb, k * 4 + 2, none⟩) (own_ne ho hblk (by decide)) _
  refine ⟨⟨?_, fun i hi => ?_, fun i hi => ?_, ?_, h.rm, h.rr, h.tm, h.tr, h.tt, h.olb, h.omb, h.oR, h.oT, fun q hq => h.of q (by rw [size_set] at hq; exact hq)⟩, ⟨(Below.refl _ _).setCell h.lt.1 _, fun i cs t h1 h2 hi => (heap_set_other (type_ne hi hblk h2) _ _).trans hi, fun q _ hn => heap_set_other (fun e => hn (by rw [e]; exact h.olb)) _ _⟩⟩
  · have := (OR.at0 h.row).2.2 (k * 4 + 2) (.slice (adr (z.T k)) ((c.lane k).turns.length - 1) (z.TC k))
    rw [lanesV_set (z' := z) (f' := c'.lane) hk (by decide) (by simp only [laneCell, ht, List.length_dropLast]) (fun i hi hne => ?_) (fun i hi e q _ => by rw [hoth i hi e])] at this
    · exact this
    · have : i = 0 ∨ i = 1 ∨ i = 3 := by omega
      rcases this with rfl | rfl | rfl
      · rfl
      · simp only [laneCell, hk2.2.1]
      · simp only [laneCell, hk2.2.2]
  · have e : (c'.lane i).regs = (c.lane i).regs := by
      by_cases e : i = k
      · subst e; exact hk2.1
      · rw [hoth i hi e]
    rw [e]; exact oi (h.regs i hi)
  · by_cases e : i = k
    · subst e
      rw [ht, List.length_dropLast]
      have h1 := OR.take_ (h.turns i hi) (m := (c.lane i).turns.length - 1) (by omega)
      have e2 : ((c.lane i).turns.map (Value.int .i64)).take (((c.lane i).turns.length - 1) * 1) = (c.lane i).turns.dropLast.map (Value.int .i64) := by
        rw [Nat.mul_one, List.dropLast_eq_take, List.map_take]
      rw [e2] at h1
      exact oi h1
    · rw [hoth i hi e]; exact oi (h.turns i hi)
  · rw [hm]; exact oi h.mem
end


/-- A machine is as before behind steps of lanes. -/
theorem MK.stc {O : Nat → Prop} {w w' : World} {B mg : Nat} {A : Option Addr} {ca : Nat} {l : List Cd} {ob : Nat} {ga : Nat → Nat} (h : MK w B mg A ca l ob ga) (hs : StC O B w w') : MK w' B mg A ca l ob ga :=
  h.keep hs.bel (fun k cs hk => hs.byt k cs _ (by decide) (by decide) hk) (fun k cs hk => hs.byt k cs _ (by decide) (by decide) hk) (fun k cs hk => hs.byt k cs _ (by decide) (by decide) hk)

theorem Ext.drewN (w : World) : ∀ n, Ext w (w.drewN n)
  | 0 => Ext.refl _
  | n + 1 => (Ext.drewN w n).trans (Ext.drew _)

theorem isDone_c {O : Nat → Prop} {w : World} {B n mg : Nat} {A : Option Addr} {ca : Nat} {l : List Cd} {ob : Nat} {ga : Nat → Nat} {z : Gm} {c : Cw} (hm : MK w B mg A ca l ob ga) (h : CM O w B n z c) {k : Nat} (hk : k < n) :
    Calls Tryz.prog 92 #[.pointer (some ⟨mg, 0, none⟩), .pointer (some ⟨z.lb, k * 4, none⟩)] w fun e w' => e = .returned (.bool (((c.lane k).pos : Int) == (l.length : Int))) ∧ Ext w w' := by
  obtain ⟨d0, d1⟩ := hm.cells
  obtain ⟨e0, e1, e2, e3⟩ := h.cells hk
  go_enter Tryz.func92, Tryz.ntmps92
  go_wp2_with fail
  go_quiet (fail)
  go_wp2
  go_ret
  exact ⟨rfl, ⟨rfl, rfl, rfl, Nat.le_refl _, fun _ _ => rfl⟩⟩

set_option maxRecDepth 100000 in
set_option maxHeartbeats 4000000 in
theorem enter_c {O : Nat → Prop} {w : World} {B n mg : Nat} {A : Option Addr} {ca : Nat} {l : List Cd} {ob : Nat} {ga : Nat → Nat} {z : Gm} {c : Cw} (hm : MK w B mg A ca l ob ga) (h : CM O w B n z c) (hok : CwOk l n c) {k : Nat} (hk : k < n) (hp : pv l = true) (hB : B ≤ w.heap.size)
    (hlt : (c.lane k).pos < l.length) (hw : (c.lane k).waits = false) (ho : opB (cdAt l (c.lane k).pos) = true) :
    Calls Tryz.prog 122 #[.pointer (some ⟨mg, 0, none⟩), .pointer (some ⟨z.lb, k * 4, none⟩)] w fun e w' => e = .returned (.tuple #[]) ∧ ∃ z', CM O w' B n z' (stepAt l c k) ∧ (z'.lb = z.lb ∧ z'.lc = z.lc ∧ z'.mb = z.mb ∧ z'.mc = z.mc) ∧ StC O B w w' := by
  obtain ⟨d0, d1⟩ := hm.cells
  obtain ⟨e0, e1, e2, e3⟩ := h.cells hk
  obtain ⟨b0, b1, b2, b3⟩ := hm.own_open hlt ho
  obtain ⟨lb, lo, y, hA, hbB, hy, l0, l1, l2, l3⟩ := hm.lst.at_ hlt
  rw [hA] at d0
  have hltI : ((c.lane k).pos : Int) < (l.length : Int) := by omega
  have hl40 := (pv_iff.1 hp).1
  have q1 := World.block_lt_of_cell? w _ d0
  have q2 := World.block_lt_of_cell? w _ e0
  have q3 := World.block_lt_of_cell? w _ b0
  have q4 := World.block_lt_of_cell? w _ l0
  have q5 := World.block_lt_of_cell? w _ b1
  simp only at q1 q2 q3 q4 q5
  have HM := Lib.hid hm
  have HC := Lib.hid h
  have hyd : cdAt l (c.lane k).pos = y := by unfold cdAt; rw [hy]
  have HV := Lib.hid (show cvOk y = true by rw [← hyd]; exact cdAt_ok hp hlt)
  have HL := Lib.hid (hok.at_ hk).2
  obtain ⟨p1, p2, p3⟩ := pEnd_bound hp hy (by rw [← hyd]; exact ho)
  have hov := overN_le hp hy (by rw [← hyd]; exact ho)
  have HOK := Lib.hid hok
  clear hA hm h hok
  have HY := Lib.hid hy
  have HYD := Lib.hid hyd
  clear hy hyd
  generalize hpos : (c.lane k).pos = pos at *
  go_enter Tryz.func122, Tryz.ntmps122
  go_wp2_with fail
  go_region_held3 (fun w' => w'.cell? ⟨mg, 0, none⟩ = some (.slice (some ⟨lb, lo, none⟩) l.length ca) ∧ w'.cell? ⟨mg, 1, none⟩ = some (.slice (some ⟨ob, 0, none⟩) l.length l.length) ∧ w'.cell? ⟨z.lb, k * 4 + 1, none⟩ = some (.int .i64 pos) ∧ w'.cell? ⟨lb, lo + pos * 4, none⟩ = some (.int .i64 y.op) ∧ w'.cell? ⟨lb, lo + pos * 4 + 1, none⟩ = some (.int .i64 y.a) ∧ w'.cell? ⟨lb, lo + pos * 4 + 2, none⟩ = some (.int .i64 y.b) ∧ w'.cell? ⟨lb, lo + pos * 4 + 3, none⟩ = some (.int .i64 y.c) ∧ w'.cell? ⟨ob, pos, none⟩ = some (.pointer (some ⟨ga pos, 0, none⟩))) (first | go_keep | fail) (fail)
  rename_i hh
  clear hh
  have hX1 := (Ext.alloc w (.cells #[.int .i64 y.op, .int .i64 y.a, .int .i64 y.b, .int .i64 y.c] 76)).trans (Ext.drew _)
  have hN := (Ext.drew _).heap_ (heap_alloc_new w (.cells #[.int .i64 y.op, .int .i64 y.a, .int .i64 y.b, .int .i64 y.c] 76))
  generalize (w.alloc (.cells #[.int .i64 y.op, .int .i64 y.a, .int .i64 y.b, .int .i64 y.c] 76)).drew = w1 at *
  have h1 := HC.out.ext hX1
  have hws := hX1.size
  have hn0 := cell_of_heap hN 0
  have hn1 := cell_of_heap hN 1
  have hn2 := cell_of_heap hN 2
  have hxb : w.heap.size < w1.heap.size := lt_of_block hN
  obtain ⟨a, haE⟩ := Int.eq_ofNat_of_zero_le (cvOk_a HV.out).1
  have ha3 : a ≤ 3 := by have := (cvOk_a HV.out).2; omega
  have hreg := h1.reg hk ha3 HL.out.four
  have f1 := h1.free (k * 4 + 1)
  replace e0 := hX1.cell e0
  replace e1 := hX1.cell e1
  replace e2 := hX1.cell e2
  replace b1 := hX1.cell b1
  replace b2 := hX1.cell b2
  replace b3 := hX1.cell b3
  have hB1 : B ≤ w1.heap.size := by omega
  have hst1 := StC.of_ext (O := O) (B := B) hX1 hB
  have HAE := Lib.hid haE
  have HX1 := Lib.hid hX1
  have HC1 := Lib.hid h1
  have HST := Lib.hid hst1
  rw [haE] at hn1
  clear haE hX1 hN h1 hst1 d0 d1 b0 l0 l1 l2 l3 q1 q2 q3 q4 q5 HC HM
  generalize w.heap.size = xb at *
  have hkc : k < c.ls.length := by rw [HOK.out.len]; exact hk
  have hop : 10 < (cdAt l (c.lane k).pos).op := by
    rw [hpos]
    simp only [opB, Bool.or_eq_true, beq_iff_eq] at ho
    omega
  have HSM := Lib.hid (stepAt_move hop)
  have hlW : (c.lane k).waits = false := hw
  have HNX : ∀ (p' : Nat) (ts' : List Int), nextP l (c.lane k).regs pos (c.lane k).turns = (p', ts') → stepAt l c k = c.put k ⟨(c.lane k).regs, p', ts', false⟩ := fun p' ts' h => by
    rw [HSM.out, hpos, h]
  have HNX := Lib.hid HNX
  have HNP := Lib.hid (rfl : nextP l (c.lane k).regs pos (c.lane k).turns = nextP l (c.lane k).regs pos (c.lane k).turns)
  have HFIN : ∀ (w2 : World) (z2 : Gm) (c2 : Cw) (p' : Nat) (ts' : List Int), CM O w2 B n z2 c2 → B ≤ w2.heap.size → (z2.lb = z.lb ∧ z2.lc = z.lc ∧ z2.mb = z.mb ∧ z2.mc = z.mc) → StC O B w w2 → c2 = c.put k ⟨(c.lane k).regs, pos, ts', false⟩ → nextP l (c.lane k).regs pos (c.lane k).turns = (p', ts') →
      ∃ z', CM O (w2.setCell ⟨z.lb, k * 4 + 1, none⟩ (.int .i64 p')) B n z' (stepAt l c k) ∧ (z'.lb = z.lb ∧ z'.lc = z.lc ∧ z'.mb = z.mb ∧ z'.mc = z.mc) ∧ StC O B w (w2.setCell ⟨z.lb, k * 4 + 1, none⟩ (.int .i64 p')) := by
    intro w2 z2 c2 p' ts' h2 hB2 hz hst hc2 hn
    subst hc2
    have hl2 := put_lane hkc ⟨(c.lane k).regs, pos, ts', false⟩
    have h3 := CM.put h2 hB2 (k := k) (j := 1) (v := .int .i64 p') (c' := c.put k ⟨(c.lane k).regs, p', ts', false⟩) hk (by decide) (by rw [put_lane hkc]; rfl)
      (fun i hi hne => by
        rw [put_lane hkc, put_lane hkc]
        match i, hne with
        | 0, _ => rfl
        | 2, _ => rfl
        | i + 3, _ => rfl)
      (fun i hi hne => by rw [put_other hne, put_other hne]) (by rw [put_lane hkc, put_lane hkc]) (by rw [put_lane hkc, put_lane hkc]) rfl
    rw [HNX.out p' ts' hn]
    rw [hz.1] at h3
    exact ⟨z2, h3.1, hz, hst.trans h3.2⟩
  have HF := Lib.hid HFIN
  clear HFIN HNX HSM
  have HSELF := Lib.hid (show c.put k ⟨(c.lane k).regs, pos, (c.lane k).turns, false⟩ = c by
    have e1 : (⟨(c.lane k).regs, pos, (c.lane k).turns, false⟩ : Ln) = c.lane k := by
      rw [← hpos, ← hlW]
    rw [e1]
    exact put_self hkc)
  have HKC := Lib.hid hkc
  clear hkc hlW hop HNP
  generalize hra : rg (c.lane k).regs a = ra at hreg
  have HRE := Lib.hid (show rg (c.lane k).regs y.a = ra by rw [HAE.out]; exact hra)
  clear hra
  by_cases hz0 : ra = 0
  · have hz1 : (ra != 0) = false := by simp [hz0]
    have HZ := Lib.hid hz0
    clear hz0
    have hnx : Hid (nextP l (c.lane k).regs pos (c.lane k).turns = (overN l pos, (c.lane k).turns)) := Lib.hid (by
      have h1 : (rg (c.lane k).regs (cdAt l pos).a == 0) = true := by rw [HYD.out, HRE.out, HZ.out]; rfl
      simp only [opB, Bool.or_eq_true] at ho
      unfold nextP
      rw [h1]
      rcases ho with h | h
      · simp [h]
      · have h2 : ((cdAt l pos).op == 11) = false := beq_eq_false_iff_ne.2 (by rw [beq_iff_eq] at h; omega)
        have h3 : ((cdAt l pos).op == 12) = false := beq_eq_false_iff_ne.2 (by rw [beq_iff_eq] at h; omega)
        simp [h2, h3, h])
    go_wp2_with fail
    go_quiet (fail)
    by_cases hel : 0 ≤ (endOf l pos).2
    · have hq : (endOf l pos).2 + 1 = ((overN l pos : Nat) : Int) := by unfold overN elseAt; rw [if_pos hel]; omega
      have hwr : IntKind.i64.wrap ((endOf l pos).2 + 1) = (endOf l pos).2 + 1 := IntWalk.i64_in _ (by omega)
      have hwr : IntKind.i64.wrap ((endOf l pos).1 + 1) = (endOf l pos).1 + 1 := IntWalk.i64_in _ (by omega)
      have HQ := Lib.hid hq
      clear hq
      go_wp2
      go_end0
      rw [HQ.out]
      refine ⟨rfl, ?_⟩
      exact HF.out _ z c _ _ (HC1.out.ext (Ext.drewN _ _)) (by exact hB1) ⟨rfl, rfl, rfl, rfl⟩ (HST.out.trans (StC.of_ext (Ext.drewN _ _) hB1)) HSELF.out.symm hnx.out
    · have hq : ((pEnd l pos : Nat) : Int) + 1 = ((overN l pos : Nat) : Int) := by unfold overN elseAt endN; rw [if_neg hel]; unfold pEnd; simp
      have HQ := Lib.hid hq
      clear hq
      go_wp2
      go_end0
      rw [HQ.out]
      refine ⟨rfl, ?_⟩
      exact HF.out _ z c _ _ (HC1.out.ext (Ext.drewN _ _)) (by exact hB1) ⟨rfl, rfl, rfl, rfl⟩ (HST.out.trans (StC.of_ext (Ext.drewN _ _) hB1)) HSELF.out.symm hnx.out
  · have hz1 : (ra != 0) = true := by simp [hz0]
    have HZ := Lib.hid hz0
    clear hz0
    by_cases h13 : y.op = 13
    · have hop : (y.op == 13) = true := by simp [h13]
      have hnx : Hid (nextP l (c.lane k).regs pos (c.lane k).turns = (pos + 1, (c.lane k).turns ++ [y.b - 1])) := Lib.hid (by
        have h1 : (rg (c.lane k).regs (cdAt l pos).a == 0) = false := by rw [HYD.out, HRE.out]; simp [HZ.out]
        unfold nextP
        rw [h1, HYD.out, h13]
        rfl)
      have H13 := Lib.hid h13
      clear h13
      go_wp2_with fail
      go_quiet (fail)
      have htl := HL.out.turns hp |>.1
      have hXq := Ext.drewN w1 nq
      have hC2 := HC1.out.ext hXq
      have HST2 := Lib.hid (HST.out.trans (StC.of_ext hXq hB1))
      have hB2 : B ≤ (w1.drewN nq).heap.size := hB1
      replace e2 := hXq.cell e2
      replace e1 := hXq.cell e1
      replace hn2 := hXq.cell (hn2.trans rfl)
      replace hn0 := hXq.cell (hn0.trans rfl)
      have hxb2 : xb < (w1.drewN nq).heap.size := hxb
      clear hXq e0 hn1 hreg b1 b2 b3 f1 HC1 HST HX1 hxb hws hB1
      generalize w1.drewN nq = w2 at *
      have HC2 := Lib.hid hC2
      obtain ⟨i0, hi0, hz0, hz1, hz2⟩ := info_parts infoInt
      have hOT := Lib.hid (OR.drew (OR.alloc (hC2.turns k hk) (.cells #[.int .i64 (y.b - 1)] 3)))
      obtain ⟨cur, hblk⟩ := hC2.heap
      have hgl : z.lb < w2.heap.size := lt_of_block hblk
      have hne : Value.ownBlock (.slice (adr (z.T k)) (c.lane k).turns.length (z.TC k)) ≠ some z.lb := own_ne (hC2.turns k hk) hblk (by decide)
      have hnew := heap_alloc_new w2 (.cells #[.int .i64 (y.b - 1)] 3)
      have h2 := (Below.heap_alloc w2 (.cells #[.int .i64 (y.b - 1)] 3) z.lb hgl).trans hblk
      have HCU := Lib.hid ((cell_of_heap hblk (k * 4 + 2)).symm.trans e2)
      have HCV := Lib.hid ((cell_of_heap hblk (k * 4 + 1)).symm.trans e1)
      clear hblk hC2
      have hsub : IntKind.i64.wrap (y.b - 1) = y.b - 1 := IntWalk.i64_in _ (by have := cvOk_b HV.out; omega)
      go_wp2_with fail
      go_region_law ((refine step_append_lies _ (by rfl) _ _ _ (by rfl) B 3 i0 _ 1 8 Tryz.underlying24 hi0 hz0 hz1 hz2 rfl (by omega) (.slice (adr (z.T k)) (c.lane k).turns.length (z.TC k)) (c.lane k).turns.length _ (by rfl) hOT.out ⟨w2.heap.size, 0, none⟩ 1 1 [.int .i64 (y.b - 1)] (by rfl) (by rfl) (World.news_of_block (cs := #[.int .i64 (y.b - 1)]) (t := 3) (fr := (0, 0)) hnew) (by simp [Value.oneCell']) (by omega) (by unfold maxLen; omega) (by omega) (by simp; omega) (w2.heap.size + 1) (by simp) ?_; intro gg cap w3 ho3 hgrow hat hlt3; have f3 := free_of_heap ((hgrow.block z.lb (by simp; omega) (fun e => hne e.symm)).trans h2) (k * 4 + 2); have c3 := (cell_of_heap ((hgrow.block z.lb (by simp; omega) (fun e => hne e.symm)).trans h2) (k * 4 + 2)).trans HCU.out))
      all_goals
        have hgr2 : (w2.alloc (.cells #[.int .i64 (y.b - 1)] 3)).grownBy w3 (z.T k) := ⟨hgrow.os, hgrow.tape, hgrow.output, hgrow.size, by rw [← own_adr (z.T k) (c.lane k).turns.length (z.TC k)]; exact hgrow.block⟩
        have hpush := CM.push HC2.out (Ext.alloc w2 (.cells #[.int .i64 (y.b - 1)] 3)) hB2 hk (g := gg) (cap := cap) (v := y.b - 1) (c' := c.put k ⟨(c.lane k).regs, pos, (c.lane k).turns ++ [y.b - 1], false⟩) hgr2 (by unfold OI; rw [List.map_append]; exact ho3)
          (by rw [own_adr] at hat; rcases hat with h | h; exact .inl h; exact .inr (by simp; omega)) (by rw [put_lane HKC.out]) (by rw [put_lane HKC.out]; exact ⟨rfl, hpos.symm, hw.symm⟩) (fun i hi hne => put_other hne _) rfl
        have e1' := (hpush.1.cells hk).2.1
        rw [put_lane HKC.out] at e1'
        have f1' := hpush.1.free (k * 4 + 1)
        have hB4 := Nat.le_trans hB2 hpush.2.size
        have HPU := Lib.hid hpush
        clear hgr2 hpush hgrow hat hlt3 ho3 f3 c3 h2 hne hnew HCU HCV hOT e1 e2 hn2 hn0
        generalize w3.setCell ⟨z.lb, k * 4 + 2, none⟩ (.slice (some ⟨gg, 0, none⟩) ((c.lane k).turns.length + 1) cap) = w4 at *
        go_wp2
        go_end0
        exact ⟨rfl, HF.out _ _ _ (pos + 1) _ HPU.out.1 hB4 ⟨rfl, rfl, rfl, rfl⟩ (HST2.out.trans HPU.out.2) rfl hnx.out⟩
    · have hop : (y.op == 13) = false := by simp [h13]
      have hnx : Hid (nextP l (c.lane k).regs pos (c.lane k).turns = (pos + 1, (c.lane k).turns)) := Lib.hid (by
        have h1 : (rg (c.lane k).regs (cdAt l pos).a == 0) = false := by rw [HYD.out, HRE.out]; simp [HZ.out]
        have h11 : (cdAt l pos).op = 11 := by
          simp only [opB, Bool.or_eq_true, beq_iff_eq] at ho
          rw [HYD.out] at ho ⊢
          omega
        unfold nextP
        rw [h1, h11]
        rfl)
      have H13 := Lib.hid h13
      clear h13
      go_wp2_with fail
      go_quiet (fail)
      go_wp2
      go_end0
      refine ⟨rfl, ?_⟩
      exact HF.out _ z c (pos + 1) _ (HC1.out.ext (Ext.drewN _ _)) (by exact hB1) ⟨rfl, rfl, rfl, rfl⟩ (HST.out.trans (StC.of_ext (Ext.drewN _ _) hB1)) HSELF.out.symm hnx.out


theorem MK.own_close {w : World} {B mg : Nat} {A : Option Addr} {ca : Nat} {l : List Cd} {ob : Nat} {ga : Nat → Nat} (h : MK w B mg A ca l ob ga) (hp : pv l = true) {p : Nat} {x : Cd} (hx : l[p]? = some x) (ho : x.op = 12 ∨ x.op = 14) :
    w.cell? ⟨ob, p, none⟩ = some (.pointer (some ⟨ga (aroundN l p), 0, none⟩)) ∧ w.cell? ⟨ga (aroundN l p), 0, none⟩ = some (.int .i64 (aroundN l p)) ∧ w.cell? ⟨ga (aroundN l p), 2, none⟩ = some (.int .i64 (endOf l (aroundN l p)).1) := by
  obtain ⟨h1, h2, h3⟩ := around_in hp hx ho
  have hpl : p < l.length := (List.getElem?_eq_some_iff.1 hx).1
  have hc : cdAt l p = x := by unfold cdAt; rw [hx]
  have hnb : opB (cdAt l p) = false := by
    rw [hc]
    simp only [opB, Bool.or_eq_false_iff, beq_eq_false_iff_ne]
    omega
  have he : ((cdAt l p).op == 12 || (cdAt l p).op == 14) = true := by
    rw [hc]
    simp only [Bool.or_eq_true, beq_iff_eq]
    exact ho
  refine ⟨(OR.at0 h.own).1 p _ ?_, ?_, ?_⟩
  · rw [ownRow_get _ _ _ _ hpl, if_pos hpl]
    simp [ownV, ownP, hnb, he, ptrV]
  all_goals (rw [cell_of_heap (h.bks _ (by omega) h3).2]; rfl)

theorem CM.pos {O : Nat → Prop} {w : World} {B n : Nat} {z : Gm} {c : Cw} {k p : Nat} {r ts : List Int} {b : Bool} (h : CM O w B n z (c.put k ⟨r, p, ts, b⟩)) (hB : B ≤ w.heap.size) (hk : k < n) (hkc : k < c.ls.length) (p' : Nat) :
    CM O (w.setCell ⟨z.lb, k * 4 + 1, none⟩ (.int .i64 p')) B n z (c.put k ⟨r, p', ts, b⟩) ∧ StC O B w (w.setCell ⟨z.lb, k * 4 + 1, none⟩ (.int .i64 p')) :=
  CM.put h hB (k := k) (j := 1) (v := .int .i64 p') (c' := c.put k ⟨r, p', ts, b⟩) hk (by decide) (by rw [put_lane hkc]; rfl)
    (fun i hi hne => by
      rw [put_lane hkc, put_lane hkc]
      match i, hne with
      | 0, _ => rfl
      | 2, _ => rfl
      | i + 3, _ => rfl)
    (fun i hi hne => by rw [put_other hne, put_other hne]) (by rw [put_lane hkc, put_lane hkc]) (by rw [put_lane hkc, put_lane hkc]) rfl
theorem set_last {ts : List Int} (h : ts ≠ []) (v : Int) : ts.set (ts.length - 1) v = ts.dropLast ++ [v] := by
  obtain ⟨a, x, rfl⟩ := List.eq_nil_or_concat ts |>.resolve_left h
  simp
theorem last_get {ts : List Int} (h : ts ≠ []) : ts[ts.length - 1]? = some (ts.getLastD 0) := by
  obtain ⟨a, x, rfl⟩ := List.eq_nil_or_concat ts |>.resolve_left h
  simp
theorem CM.turn {O : Nat → Prop} {w : World} {B n : Nat} {z : Gm} {c : Cw} (h : CM O w B n z c) {k : Nat} (hk : k < n) (hne : (c.lane k).turns ≠ []) : ∃ b, z.T k = some b ∧ w.cell? ⟨b, (c.lane k).turns.length - 1, none⟩ = some (.int .i64 ((c.lane k).turns.getLastD 0)) ∧ ∀ j, w.frozen? ⟨b, j, none⟩ = false := by
  have h1 := h.turns k hk
  cases hT : z.T k with
  | none =>
    rw [hT] at h1
    have hl := OI.len h1
    rcases h1.2 with hn | ⟨g, cap, cur, hv, _⟩
    · exfalso
      have h0 := hn.1
      injection h0 with _ h0 _
      exact hne (List.eq_nil_of_length_eq_zero h0)
    · simp [adr] at hv
  | some b =>
    rw [hT] at h1
    obtain ⟨cur, hc⟩ := OR.heap_ h1
    exact ⟨b, rfl, (OI.at0 h1).1 _ _ (last_get hne), fun j => free_of_heap hc j⟩

theorem turn_nums {len tc len1 : Nat} (h3 : len = len1 + 1) (hT : len ≤ 3) (hc : len ≤ tc) : wrap64 (len1 : Int) = (len1 : Int) ∧ (len1 : Int) < (tc : Int) ∧ (len1 : Int) ≤ (tc : Int) ∧ ¬ tc = 0 ∧ len1 < tc := by
  refine ⟨?_, by omega, by omega, by omega, by omega⟩
  exact IntWalk.wrap64_in _ (by omega)
theorem opAt_cd (l : List Cd) (f : Nat) : opAt l f = (cdAt l f).op := by
  unfold opAt cdAt
  cases l[f]? <;> rfl

set_option maxRecDepth 100000 in
set_option maxHeartbeats 4000000 in
theorem leave_c {O : Nat → Prop} {w : World} {B n mg : Nat} {A : Option Addr} {ca : Nat} {l : List Cd} {ob : Nat} {ga : Nat → Nat} {z : Gm} {c : Cw} (hm : MK w B mg A ca l ob ga) (h : CM O w B n z c) (hok : CwOk l n c) {k : Nat} (hk : k < n) (hp : pv l = true) (hB : B ≤ w.heap.size)
    (hlt : (c.lane k).pos < l.length) (hw : (c.lane k).waits = false) (ho : (cdAt l (c.lane k).pos).op = 14) :
    Calls Tryz.prog 123 #[.pointer (some ⟨mg, 0, none⟩), .pointer (some ⟨z.lb, k * 4, none⟩)] w fun e w' => e = .returned (.tuple #[]) ∧ ∃ z', CM O w' B n z' (stepAt l c k) ∧ (z'.lb = z.lb ∧ z'.lc = z.lc ∧ z'.mb = z.mb ∧ z'.mc = z.mc) ∧ StC O B w w' := by
  have hkc : k < c.ls.length := by rw [hok.len]; exact hk
  have hL := (hok.at_ hk).2
  have hSM := stepAt_move (l := l) (c := c) (k := k) (by omega)
  have hLP := fun h13 => hL.loop_ hp hlt ho h13
  have hl40 := (pv_iff.1 hp).1
  obtain ⟨hT1, hT2⟩ := hL.turns hp
  have h4 := hL.four
  have hxx : l[(c.lane k).pos]? = some (cdAt l (c.lane k).pos) := by unfold cdAt; rw [List.getElem?_eq_getElem hlt]
  obtain ⟨d0, d1⟩ := hm.cells
  obtain ⟨e0, e1, e2, e3⟩ := h.cells hk
  obtain ⟨b0, b1, b2⟩ := hm.own_close hp hxx (.inr ho)
  obtain ⟨-, a1, a2⟩ := around_in hp hxx (.inr ho)
  have HLN := Lib.hid (show c.lane k = ⟨(c.lane k).regs, (c.lane k).pos, (c.lane k).turns, false⟩ by rw [← hw])
  have hnx : nextP l (c.lane k).regs (c.lane k).pos (c.lane k).turns = if (cdAt l (aroundN l (c.lane k).pos)).op == 13 then
      (if decide (0 < (c.lane k).turns.getLastD 0) && !(rg (c.lane k).regs (cdAt l (aroundN l (c.lane k).pos)).a == 0) then (aroundN l (c.lane k).pos + 1, (c.lane k).turns.dropLast ++ [(c.lane k).turns.getLastD 0 - 1]) else ((c.lane k).pos + 1, (c.lane k).turns.dropLast))
    else ((c.lane k).pos + 1, (c.lane k).turns) := by
    have hop := opAt_cd l (aroundN l (c.lane k).pos)
    have e11 : ((cdAt l (c.lane k).pos).op == 11) = false := beq_eq_false_iff_ne.2 (by omega)
    have e12 : ((cdAt l (c.lane k).pos).op == 12) = false := beq_eq_false_iff_ne.2 (by omega)
    have e13 : ((cdAt l (c.lane k).pos).op == 13) = false := beq_eq_false_iff_ne.2 (by omega)
    have e14 : ((cdAt l (c.lane k).pos).op == 14) = true := beq_iff_eq.2 ho
    unfold nextP
    simp only [e11, e12, e13, e14, if_true, hop]
    rfl
  rw [hnx] at hSM
  have hLP2 : (cdAt l (aroundN l (c.lane k).pos)).op = 13 → (c.lane k).turns ≠ [] := fun h => hLP ((opAt_cd _ _).trans h)
  clear hnx hLP
  have HG := Lib.hid (hm.bks _ (show aroundN l (c.lane k).pos < l.length by omega) a2).2
  obtain ⟨lb, lo, y, hA, hbB, hy, l0, l1, l2, l3⟩ := hm.lst.at_ (show aroundN l (c.lane k).pos < l.length by omega)
  have hyd : cdAt l (aroundN l (c.lane k).pos) = y := by unfold cdAt; rw [hy]
  have hya := cvOk_a (show cvOk y = true by rw [← hyd]; exact cdAt_ok hp (by omega))
  rw [hyd] at hSM hLP2 a2
  rw [hA] at d0
  have hHC := Lib.hid h
  have HSM := Lib.hid hSM
  have HLP := Lib.hid hLP2
  have q1 := World.block_lt_of_cell? w _ d0
  have q2 := World.block_lt_of_cell? w _ e0
  have q3 := World.block_lt_of_cell? w _ b0
  have q4 := World.block_lt_of_cell? w _ l0
  have q5 := World.block_lt_of_cell? w _ b1
  simp only at q1 q2 q3 q4 q5
  have hposI : ((c.lane k).pos : Int) < (l.length : Int) := by omega
  have hfI : (aroundN l (c.lane k).pos : Int) < (l.length : Int) := by omega
  clear hA hm h hok hL hSM hLP2 hy hyd hxx ho
  generalize hpos : (c.lane k).pos = pos at *
  generalize aroundN l pos = f at *
  go_enter Tryz.func123, Tryz.ntmps123
  go_wp2_with fail
  go_quiet (fail)
  have hXq := Ext.drewN w nq
  have hC1 := hHC.out.ext hXq
  have hst1 := StC.of_ext (O := O) (B := B) hXq hB
  replace e0 := hXq.cell e0
  replace e1 := hXq.cell e1
  replace e2 := hXq.cell e2
  replace d0 := hXq.cell d0
  replace b1 := hXq.cell b1
  replace l0 := hXq.cell l0
  replace l1 := hXq.cell l1
  replace l2 := hXq.cell l2
  replace l3 := hXq.cell l3
  have hB1 : B ≤ (w.drewN nq).heap.size := hB
  replace q1 : mg < (w.drewN nq).heap.size := q1
  replace q2 : z.lb < (w.drewN nq).heap.size := q2
  replace q4 : lb < (w.drewN nq).heap.size := q4
  replace q5 : ga f < (w.drewN nq).heap.size := q5
  clear hXq d1 e3 b0 b2 q3
  generalize w.drewN nq = w1 at *
  have HC1 := Lib.hid hC1
  have HST1 := Lib.hid hst1
  clear hC1 hst1 hHC
  go_wp2_with fail
  go_region_held3 (fun w' => w'.cell? ⟨mg, 0, none⟩ = some (.slice (some ⟨lb, lo, none⟩) l.length ca) ∧ w'.cell? ⟨ga f, 0, none⟩ = some (.int .i64 f) ∧ w'.cell? ⟨lb, lo + f * 4, none⟩ = some (.int .i64 y.op) ∧ w'.cell? ⟨lb, lo + f * 4 + 1, none⟩ = some (.int .i64 y.a) ∧ w'.cell? ⟨lb, lo + f * 4 + 2, none⟩ = some (.int .i64 y.b) ∧ w'.cell? ⟨lb, lo + f * 4 + 3, none⟩ = some (.int .i64 y.c)) (first | go_keep | fail) (fail)
  rename_i hh
  clear hh
  have hX1 := (Ext.alloc w1 (.cells #[.int .i64 y.op, .int .i64 y.a, .int .i64 y.b, .int .i64 y.c] 76)).trans (Ext.drew _)
  have hN := (Ext.drew _).heap_ (heap_alloc_new w1 (.cells #[.int .i64 y.op, .int .i64 y.a, .int .i64 y.b, .int .i64 y.c] 76))
  generalize (w1.alloc (.cells #[.int .i64 y.op, .int .i64 y.a, .int .i64 y.b, .int .i64 y.c] 76)).drew = w2 at *
  have hC2 := HC1.out.ext hX1
  have hws := hX1.size
  have hxb : w1.heap.size < w2.heap.size := lt_of_block hN
  obtain ⟨a, haE⟩ := Int.eq_ofNat_of_zero_le hya.1
  have ha3 : a ≤ 3 := by omega
  have hB2 : B ≤ w2.heap.size := by omega
  have HST2 := Lib.hid (HST1.out.trans (StC.of_ext (O := O) (B := B) hX1 hB1))
  have HAE := Lib.hid haE
  rw [haE] at hN
  replace e1 := hX1.cell e1
  replace b1 := hX1.cell b1
  have f1 := hC2.free (k * 4 + 1)
  have HC2 := Lib.hid hC2
  clear haE hX1 hC2 e0 e2 d0 l0 l1 l2 l3 q1 q2 q4 q5 HC1 HST1 hya
  have HN := Lib.hid hN
  clear hN
  generalize w1.heap.size = xb at *
  go_upto_region 3 with (fail)
  have hCp : CM O w2 B n z (c.put k ⟨(c.lane k).regs, pos, (c.lane k).turns, false⟩) := by rw [← HLN.out, put_self hkc]; exact HC2.out
  have hC3 := hCp.pos hB2 hk hkc (pos + 1)
  have hN3 := hC3.2.byt _ _ _ (by decide) (by decide) HN.out
  rw [show (((pos + 1 : Nat) : Int)) = (pos : Int) + 1 from rfl] at hC3 hN3
  have hB3 := Nat.le_trans hB2 hC3.2.size
  have hb1 := hC3.2.byt (ga f)
  clear e1 f1
  generalize w2.setCell ⟨z.lb, k * 4 + 1, none⟩ (.int .i64 ((pos : Int) + 1)) = w3 at *
  have HC3 := Lib.hid hC3.1
  have HST3 := Lib.hid (HST2.out.trans hC3.2)
  have hn0 := cell_of_heap hN3 0
  have hn1 := cell_of_heap hN3 1
  clear hC3 hN3 HST2 HC2 HN hws hCp
  have HKC := Lib.hid hkc
  clear hkc
  by_cases h13 : y.op = 13
  · have hop : (y.op != 13) = false := by simp [h13]
    have hop2 : (y.op == 13) = true := by simp [h13]
    have hne := HLP.out h13
    obtain ⟨e0, e1, e2, -⟩ := HC3.out.cells hk
    obtain ⟨tb, htb, t1, tf⟩ := HC3.out.turn hk (by rw [put_lane HKC.out]; exact hne)
    have hreg := HC3.out.reg hk ha3 (by rw [put_lane HKC.out]; exact h4)
    rw [put_lane HKC.out] at e1 e2 t1 hreg
    simp only at e1 e2 t1 hreg
    have htp : 0 < (c.lane k).turns.length := List.length_pos_iff.2 hne
    have hlast := hT2 ((c.lane k).turns.getLastD 0) (List.mem_of_getElem? (last_get hne))
    have hss := HSM.out
    rw [hop2] at hss
    simp only [if_true] at hss
    rw [HAE.out] at hss
    have HNE := Lib.hid hne
    rw [htb] at e2
    have f1 := HC3.out.free (k * 4 + 1)
    have f2 := HC3.out.free (k * 4 + 2)
    have ft := tf ((c.lane k).turns.length - 1)
    have hlenI : ((c.lane k).turns.length : Int) - 1 = (((c.lane k).turns.length - 1 : Nat) : Int) := by omega
    have htbl := World.block_lt_of_cell? w3 _ t1
    have hcap := OR.cap_ (HC3.out.turns k hk)
    rw [put_lane HKC.out] at hcap
    simp only at hcap
    have HTB := Lib.hid htb
    have HLS := Lib.hid (last_get hne)
    have HSL := Lib.hid (fun v => set_last hne v)
    have HPOP : ∀ q, Hid (CM O ((w3.drewN q).setCell ⟨z.lb, k * 4 + 2, none⟩ (.slice (some ⟨tb, 0, none⟩) ((c.lane k).turns.length - 1) (z.TC k))) B n z (c.put k ⟨(c.lane k).regs, pos + 1, (c.lane k).turns.dropLast, false⟩) ∧
        StC O B w ((w3.drewN q).setCell ⟨z.lb, k * 4 + 2, none⟩ (.slice (some ⟨tb, 0, none⟩) ((c.lane k).turns.length - 1) (z.TC k)))) := fun q => Lib.hid (by
      have hd := HC3.out.ext (Ext.drewN w3 q)
      have := CM.pop hd hk (c' := c.put k ⟨(c.lane k).regs, pos + 1, (c.lane k).turns.dropLast, false⟩) (by rw [put_lane HKC.out, put_lane HKC.out]) (by rw [put_lane HKC.out, put_lane HKC.out]; exact ⟨rfl, rfl, rfl⟩) (fun i _ hi => by rw [put_other hi, put_other hi]) rfl
      rw [put_lane HKC.out, htb] at this
      exact ⟨this.1, HST3.out.trans ((StC.of_ext (Ext.drewN w3 q) hB3).trans this.2)⟩)
    clear hne htb
    generalize hgv : (c.lane k).turns.getLastD 0 = v at *
    generalize hra : rg (c.lane k).regs (a : Int) = ra at *
    generalize hlen : (c.lane k).turns.length - 1 = len1 at *
    have hlen3 : (c.lane k).turns.length = len1 + 1 := by omega
    obtain ⟨hw1, hcI, hcI2, hc0, hcN⟩ := turn_nums hlen3 hT1 hcap
    have HL3 := Lib.hid hlen3
    rw [hlen3, show adr (some tb) = some (⟨tb, 0, none⟩ : Addr) from rfl] at e2
    clear hlenI hlen htp hT1 hgv hra hlen3 hcap
    by_cases hz0 : ra = 0
    · have hz1 : (ra != 0) = false := by simp [hz0]
      have hz2 : (ra == 0) = true := by simp [hz0]
      rw [hz2] at hss
      simp only [Bool.not_true, Bool.and_false] at hss
      have HSS := Lib.hid hss
      clear hss hz0 hz2
      go_wp2_with fail
      go_quiet (fail)
      go_wp2
      go_end0
      refine ⟨rfl, z, ?_, ⟨rfl, rfl, rfl, rfl⟩, (HPOP _).out.2⟩
      rw [HSS.out]
      exact (HPOP _).out.1
    · have hz1 : (ra != 0) = true := by simp [hz0]
      have hz2 : (ra == 0) = false := by simp [hz0]
      rw [hz2] at hss
      simp only [Bool.not_false, Bool.and_true, decide_eq_true_eq] at hss
      clear hz0 hz2
      by_cases hv : 0 < v
      · rw [if_pos hv] at hss
        have HSS := Lib.hid hss
        clear hss
        go_wp2_with fail
        go_quiet (fail)
        go_upto_region 7 with (fail)
        have hlt1 : len1 < (c.lane k).turns.length := by rw [HL3.out]; omega
        have hdec := CM.dec (HC3.out.ext (Ext.drewN w3 nq)) hk HTB.out (j := len1) (v := v - 1) (c' := c.put k ⟨(c.lane k).regs, pos + 1, (c.lane k).turns.set len1 (v - 1), false⟩) (by rw [put_lane HKC.out]; exact hlt1) (by rw [put_lane HKC.out, put_lane HKC.out]) (by rw [put_lane HKC.out, put_lane HKC.out]; exact ⟨rfl, rfl, rfl⟩) (fun i _ hi => by rw [put_other hi, put_other hi]) rfl
        have hst5 := HST3.out.trans ((StC.of_ext (Ext.drewN w3 nq) hB3).trans hdec.2)
        have hg5 := hst5.byt _ _ _ (by decide) (by decide) HG.out
        have hB5 := Nat.le_trans hB hst5.size
        have hC5 := hdec.1
        clear hdec e0 e1 e2 t1 hreg f1 f2 ft hn0 hn1 htbl tf hlt1 HPOP
        generalize (w3.drewN nq).setCell ⟨tb, len1, none⟩ (.int .i64 (v - 1)) = w5 at *
        have g0 := cell_of_heap hg5 0
        have e1 := (hC5.cells hk).2.1
        have f1 := hC5.free (k * 4 + 1)
        rw [put_lane HKC.out] at e1
        have HC5 := Lib.hid hC5
        have HST5 := Lib.hid hst5
        clear hg5 hC5 hst5
        go_wp2
        ((try simp only [Exit.inBlock, Exit.then]); refine bodyPost_ret (results_none rfl _ _ _) rfl ?_)
        have hfin := HC5.out.pos hB5 hk HKC.out (f + 1)
        refine ⟨rfl, z, ?_, ⟨rfl, rfl, rfl, rfl⟩, HST5.out.trans hfin.2⟩
        rw [HSS.out, ← HSL.out]
        exact hfin.1
      · rw [if_neg hv] at hss
        have HSS := Lib.hid hss
        clear hss
        go_wp2_with fail
        go_quiet (fail)
        go_wp2
        go_end0
        refine ⟨rfl, z, ?_, ⟨rfl, rfl, rfl, rfl⟩, (HPOP _).out.2⟩
        rw [HSS.out]
        exact (HPOP _).out.1
  · have hop : (y.op != 13) = true := by simp [h13]
    have hop2 : (y.op == 13) = false := by simp [h13]
    have hss := HSM.out
    rw [hop2] at hss
    have HSS := Lib.hid hss
    clear hss h13
    go_wp2
    ((try simp only [Exit.inBlock, Exit.then]); refine bodyPost_ret (results_none rfl _ _ _) rfl ?_)
    refine ⟨rfl, z, ?_, ⟨rfl, rfl, rfl, rfl⟩, HST3.out⟩
    rw [HSS.out]
    exact HC3.out


def SmG (z' z : Gm) : Prop := z'.lb = z.lb ∧ z'.lc = z.lc ∧ z'.mb = z.mb ∧ z'.mc = z.mc
theorem SmG.refl (z : Gm) : SmG z z := ⟨rfl, rfl, rfl, rfl⟩
theorem SmG.trans {a b c : Gm} (h : SmG a b) (k : SmG b c) : SmG a c := ⟨h.1.trans k.1, h.2.1.trans k.2.1, h.2.2.1.trans k.2.2.1, h.2.2.2.trans k.2.2.2⟩
def StepP (O : Nat → Prop) (w : World) (B n : Nat) (z : Gm) (c' : Cw) (e : Ending) (w' : World) : Prop :=
  e = .returned (.tuple #[]) ∧ ∃ z', CM O w' B n z' c' ∧ SmG z' z ∧ StC O B w w'

set_option maxRecDepth 100000 in
set_option maxHeartbeats 8000000 in
theorem step_c {O : Nat → Prop} {w : World} {B n mg : Nat} {A : Option Addr} {ca : Nat} {l : List Cd} {ob : Nat} {ga : Nat → Nat} {z : Gm} {c : Cw} (hm : MK w B mg A ca l ob ga) (h : CM O w B n z c) (hok : CwOk l n c) {k mn : Nat} (hk : k < n) (hn8 : n ≤ 8) (hp : pv l = true) (hB : B ≤ w.heap.size) (hmn : mn = c.mem.length) (hml : 1 ≤ mn ∧ mn ≤ 32) :
    Calls Tryz.prog 95 #[.pointer (some ⟨mg, 0, none⟩), .pointer (some ⟨z.lb, k * 4, none⟩), .int .i64 k, .slice (some ⟨z.mb, 0, none⟩) mn z.mc] w (StepP O w B n z (stepIf l c k)) := by
  subst hmn
  obtain ⟨e0, e1, e2, e3⟩ := h.cells hk
  have hL := (hok.at_ hk).2
  have hpl := (hL.pos_le hp).1
  have hl40 := (pv_iff.1 hp).1
  by_cases hw : (c.lane k).waits = true
  · have hg : stepIf l c k = c := by unfold stepIf goesL; rw [hw]; rfl
    rw [hg]
    rw [hw] at e3
    have hg2 := Lib.hid h
    clear hm hok hL hpl hg hw e0 e1 e2
    go_enter Tryz.func95, Tryz.ntmps95
    go_wp2
    ((try simp only [Exit.inBlock, Exit.then]); refine bodyPost_ret (results_none rfl _ _ _) rfl ?_)
    exact ⟨rfl, z, hg2.out, SmG.refl _, StC.refl _ _⟩
  · have hw : (c.lane k).waits = false := by simpa using hw
    have HW := Lib.hid hw
    rw [hw] at e3
    clear hw
    by_cases hlt : (c.lane k).pos = l.length
    · have hg : stepIf l c k = c := by unfold stepIf goesL; rw [hlt]; simp
      have hd : (((c.lane k).pos : Int) == (l.length : Int)) = true := by simp [hlt]
      have HM := Lib.hid hm
      have HC := Lib.hid h
      rw [hg]
      clear hm h hok hlt hg
      go_enter Tryz.func95, Tryz.ntmps95
      go_wp2_with fail
      refine (isDone_c HM.out HC.out hk).mono ?_
      rintro e w1 ⟨rfl, hx⟩
      rw [hd]
      have hC1 := Lib.hid (HC.out.ext hx)
      have hst := Lib.hid (StC.of_ext (O := O) (B := B) hx hB)
      clear hx
      go_wp2
      ((try simp only [Exit.inBlock, Exit.then]); refine bodyPost_ret (results_none rfl _ _ _) rfl ?_)
      exact ⟨rfl, z, hC1.out, SmG.refl _, hst.out⟩
    · have hlt2 : (c.lane k).pos < l.length := by omega
      have hg : stepIf l c k = stepAt l c k := by unfold stepIf goesL; rw [HW.out]; simp [hlt2]
      have hd : (((c.lane k).pos : Int) == (l.length : Int)) = false := by simp; omega
      have HM := Lib.hid hm
      have HC := Lib.hid h
      have HOK := Lib.hid hok
      rw [hg]
      clear hm h hok hlt hg e0 e1 e2 e3
      obtain ⟨e0, e1, e2, e3⟩ := HC.out.cells hk
      rw [HW.out] at e3
      go_enter Tryz.func95, Tryz.ntmps95
      go_wp2_with fail
      refine (isDone_c HM.out HC.out hk).mono ?_
      rintro e w1 ⟨rfl, hx⟩
      rw [hd]
      clear e0 e1 e2 e3
      obtain ⟨y, hy⟩ : ∃ y, l[(c.lane k).pos]? = some y := ⟨_, List.getElem?_eq_getElem hlt2⟩
      have hyd : cdAt l (c.lane k).pos = y := by unfold cdAt; rw [hy]
      have HM1 := Lib.hid (HM.out.ext hx hB)
      have HC1 := Lib.hid (HC.out.ext hx)
      have hB1 := Nat.le_trans hB hx.size
      have HST1 := Lib.hid (StC.of_ext (O := O) (B := B) hx hB)
      clear hx HM HC
      obtain ⟨e0, e1, e2, e3⟩ := HC1.out.cells hk
      obtain ⟨d0, d1⟩ := HM1.out.cells
      obtain ⟨lb, lo, y', hA, hbB, hy', l0, l1, l2, l3⟩ := HM1.out.lst.at_ hlt2
      obtain rfl : y = y' := by rw [hy] at hy'; exact Option.some.inj hy'
      rw [hA] at d0
      have HA := Lib.hid hA
      have HY := Lib.hid hy
      have HYD := Lib.hid hyd
      have hv : cvOk y = true := by rw [← hyd]; exact cdAt_ok hp hlt2
      have HV := Lib.hid hv
      have q1 := World.block_lt_of_cell? w1 _ d0
      have q2 := World.block_lt_of_cell? w1 _ e0
      have q4 := World.block_lt_of_cell? w1 _ l0
      simp only at q1 q2 q4
      have hltI : ((c.lane k).pos : Int) < (l.length : Int) := by omega
      clear hA hy hyd hy' d1 hv
      generalize hpos : (c.lane k).pos = pos at *
      go_wp2_with fail
      go_region_held3 (fun w' => w'.cell? ⟨mg, 0, none⟩ = some (.slice (some ⟨lb, lo, none⟩) l.length ca) ∧ w'.cell? ⟨z.lb, k * 4 + 1, none⟩ = some (.int .i64 pos) ∧ w'.cell? ⟨lb, lo + pos * 4, none⟩ = some (.int .i64 y.op) ∧ w'.cell? ⟨lb, lo + pos * 4 + 1, none⟩ = some (.int .i64 y.a) ∧ w'.cell? ⟨lb, lo + pos * 4 + 2, none⟩ = some (.int .i64 y.b) ∧ w'.cell? ⟨lb, lo + pos * 4 + 3, none⟩ = some (.int .i64 y.c)) (first | go_keep | fail) (fail)
      rename_i hh
      clear hh
      have hX1 := (Ext.alloc w1 (.cells #[.int .i64 y.op, .int .i64 y.a, .int .i64 y.b, .int .i64 y.c] 76)).trans (Ext.drew _)
      have hN := (Ext.drew _).heap_ (heap_alloc_new w1 (.cells #[.int .i64 y.op, .int .i64 y.a, .int .i64 y.b, .int .i64 y.c] 76))
      generalize (w1.alloc (.cells #[.int .i64 y.op, .int .i64 y.a, .int .i64 y.b, .int .i64 y.c] 76)).drew = w2 at *
      have HM2 := Lib.hid (HM1.out.ext hX1 hB1)
      have HC2 := Lib.hid (HC1.out.ext hX1)
      have hB2 := Nat.le_trans hB1 hX1.size
      have HST2 := Lib.hid (HST1.out.trans (StC.of_ext (O := O) (B := B) hX1 hB1))
      have hn0 := cell_of_heap hN 0
      have hxb : w1.heap.size < w2.heap.size := lt_of_block hN
      have HN := Lib.hid hN
      clear hX1 hN HM1 HC1 HST1 hB1 l0 l1 l2 l3 e0 e1 e2 e3 d0 q1 q2 q4
      generalize w1.heap.size = xb at *
      have h1 := cvOk_op HV.out
      by_cases h11 : y.op = 11
      · have t11 : (y.op == 11) = true := beq_iff_eq.2 h11
        have HO := Lib.hid (show opB (cdAt l (c.lane k).pos) = true by rw [hpos, HYD.out]; simp [opB, h11])
        clear h11
        go_wp2_with fail
        refine (enter_c HM2.out HC2.out HOK.out hk hp hB2 (by omega) HW.out HO.out).mono ?_
        rintro e w3 ⟨rfl, z3, hC3, hz3, hst3⟩
        go_wp2
        go_end0
        exact ⟨rfl, z3, hC3, hz3, HST2.out.trans hst3⟩
      · have t11 : (y.op == 11) = false := beq_eq_false_iff_ne.2 h11
        by_cases h13 : y.op = 13
        · have t13 : (y.op == 13) = true := beq_iff_eq.2 h13
          have HO := Lib.hid (show opB (cdAt l (c.lane k).pos) = true by rw [hpos, HYD.out]; simp [opB, h13])
          clear h13 h11
          go_wp2_with fail
          refine (enter_c HM2.out HC2.out HOK.out hk hp hB2 (by omega) HW.out HO.out).mono ?_
          rintro e w3 ⟨rfl, z3, hC3, hz3, hst3⟩
          go_wp2
          go_end0
          exact ⟨rfl, z3, hC3, hz3, HST2.out.trans hst3⟩
        · have t13 : (y.op == 13) = false := beq_eq_false_iff_ne.2 h13
          by_cases h12 : y.op = 12
          · have t12 : (y.op == 12) = true := beq_iff_eq.2 h12
            obtain ⟨g0, g1, g2⟩ := HM2.out.own_close hp HY.out (.inl h12)
            obtain ⟨-, r1, r2⟩ := around_in hp HY.out (.inl h12)
            have r3 : aroundN l pos < l.length := by omega
            obtain ⟨p1, p2, p3⟩ := pEnd_bound hp (show l[aroundN l pos]? = some (cdAt l (aroundN l pos)) by unfold cdAt; rw [List.getElem?_eq_getElem r3]) r2
            have HSM := Lib.hid (show stepAt l c k = c.put k ⟨(c.lane k).regs, endN l (aroundN l pos) + 1, (c.lane k).turns, false⟩ by
              have e1 := stepAt_move (l := l) (c := c) (k := k) (by rw [hpos, HYD.out]; omega)
              rw [e1, hpos]
              have e2 : nextP l (c.lane k).regs pos (c.lane k).turns = (endN l (aroundN l pos) + 1, (c.lane k).turns) := by
                unfold nextP
                rw [HYD.out, t11, t12]
                rfl
              rw [e2])
            have hpe : pEnd l (aroundN l pos) = endN l (aroundN l pos) := rfl
            obtain ⟨d0, d1⟩ := HM2.out.cells
            obtain ⟨e0, e1, e2, e3⟩ := HC2.out.cells hk
            rw [hpos] at e1
            have f1 := HC2.out.free (k * 4 + 1)
            rw [p1, hpe] at g2
            rw [hpe] at p2 p3
            have hpo : (c.lane k) = ⟨(c.lane k).regs, pos, (c.lane k).turns, false⟩ := by rw [← hpos, ← HW.out]
            have HPO := Lib.hid hpo
            clear h11 h12 h13 p1 hpe r1 r2 r3 hpo
            generalize endN l (aroundN l pos) = en at *
            generalize aroundN l pos = f at *
            go_wp2_with fail
            go_still_tail 17, (by kernel_rfl)
            go_wp2
            go_end0
            have hX := Ext.drew w2
            have hC := HC2.out.ext hX
            rw [← put_self (show k < c.ls.length by rw [HOK.out.len]; exact hk), HPO.out] at hC
            have hfin := hC.pos (Nat.le_trans hB2 hX.size) hk (by rw [HOK.out.len]; exact hk) (en + 1)
            refine ⟨rfl, z, ?_, SmG.refl _, HST2.out.trans ((StC.of_ext hX hB2).trans hfin.2)⟩
            rw [HSM.out]
            exact hfin.1
          · have t12 : (y.op == 12) = false := beq_eq_false_iff_ne.2 h12
            by_cases h14 : y.op = 14
            · have t14 : (y.op == 14) = true := beq_iff_eq.2 h14
              have HO := Lib.hid (show (cdAt l (c.lane k).pos).op = 14 by rw [hpos, HYD.out]; exact h14)
              clear h11 h12 h13 h14
              go_wp2_with fail
              refine (leave_c HM2.out HC2.out HOK.out hk hp hB2 (by omega) HW.out HO.out).mono ?_
              rintro e w3 ⟨rfl, z3, hC3, hz3, hst3⟩
              go_wp2
              go_end0
              exact ⟨rfl, z3, hC3, hz3, HST2.out.trans hst3⟩
            · have t14 : (y.op == 14) = false := beq_eq_false_iff_ne.2 h14
              have H10 := Lib.hid (show y.op ≤ 10 by omega)
              have HSM := Lib.hid (stepAt_simple (l := l) (c := c) (k := k) (by rw [hpos, HYD.out]; exact H10.out))
              clear h11 h12 h13 h14
              obtain ⟨e0, e1, e2, e3⟩ := HC2.out.cells hk
              have hn1 := cell_of_heap HN.out 1
              have hn2 := cell_of_heap HN.out 2
              have hn3 := cell_of_heap HN.out 3
              go_wp2_with fail
              go_still_tail 7, (by kernel_rfl)
              go_wp2_with fail
              have hX := Ext.drew w2
              have hCd := HC2.out.ext hX
              have hBd := Nat.le_trans hB2 hX.size
              refine (compute_c y k (c.lane k).regs c.mem B (z.R k) (z.RC k) z.mb z.mc c.mem.length _ HV.out H10.out (by omega) (hCd.regs k hk) hCd.mem (hCd.rm k hk) (HOK.out.at_ hk).2.words HOK.out.words hml).mono ?_
              rintro e w3 ⟨rfl, hs⟩
              have hlen := simp1_len y k (c.lane k).regs c.mem
              have hsp := CM.simp hCd hBd hk rfl (x := y) (c' := (⟨c.ls, (simp1 y k (c.lane k).regs c.mem).2⟩ : Cw).put k ⟨(simp1 y k (c.lane k).regs c.mem).1, pos, (c.lane k).turns, false⟩) hs (by rw [put_lane (by rw [HOK.out.len]; exact hk)]) rfl
                (by rw [put_lane (by rw [HOK.out.len]; exact hk)]; exact ⟨hpos.symm, rfl, HW.out.symm⟩) (fun i _ hi => by rw [put_other hi]; rfl)
              have hB3 := Nat.le_trans hBd hsp.2.size
              have HST3 := Lib.hid (HST2.out.trans ((StC.of_ext hX hB2).trans hsp.2))
              have hN3 := hsp.2.byt _ _ _ (by decide) (by decide) (hX.heap_ HN.out)
              have hC3 := hsp.1
              obtain ⟨-, e1', -, e3'⟩ := hC3.cells hk
              rw [put_lane (by rw [HOK.out.len]; exact hk)] at e1' e3'
              have f1' := hC3.free (k * 4 + 1)
              have f3' := hC3.free (k * 4 + 3)
              have hn0' := cell_of_heap hN3 0
              have HC3 := Lib.hid hC3
              clear hX hCd hBd hs hsp hN3 hC3 e0 e1 e2 e3 hn0 hn1 hn2 hn3 hlen
              go_wp2
              go_end0
              have hkl : k < (⟨c.ls, (simp1 y k (c.lane k).regs c.mem).2⟩ : Cw).ls.length := by show k < c.ls.length; rw [HOK.out.len]; exact hk
              have hp1 := CM.put HC3.out hB3 (k := k) (j := 3) (v := .bool (y.op == 10)) (c' := (⟨c.ls, (simp1 y k (c.lane k).regs c.mem).2⟩ : Cw).put k ⟨(simp1 y k (c.lane k).regs c.mem).1, pos, (c.lane k).turns, y.op == 10⟩) hk (by decide) (by rw [put_lane hkl]; rfl)
                (fun i hi hne => by
                  rw [put_lane hkl, put_lane hkl]
                  have : i = 0 ∨ i = 1 ∨ i = 2 := by omega
                  rcases this with rfl | rfl | rfl <;> rfl)
                (fun i hi hne => by rw [put_other hne, put_other hne]) (by rw [put_lane hkl, put_lane hkl]) (by rw [put_lane hkl, put_lane hkl]) rfl
              have hp2 := hp1.1.pos (Nat.le_trans hB3 hp1.2.size) hk hkl (pos + 1)
              refine ⟨rfl, z, ?_, SmG.refl _, HST3.out.trans (hp1.2.trans hp2.2)⟩
              have e := HSM.out
              rw [hpos, HYD.out] at e
              rw [e]
              exact hp2.1

end Go.Proofs.YtelbfeidpcojmaaGreat
