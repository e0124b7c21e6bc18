/- Part 8 of what the claim needs. -/
import Derived.Test.YtelbfeidpcojmaaGreatSa1
import Derived.Test.YtelbfeidpcojmaaGreatSa2
import Derived.Test.YtelbfeidpcojmaaGreatSa3
import Derived.Test.YtelbfeidpcojmaaGreatSa4
import Derived.Test.YtelbfeidpcojmaaGreatSa5
import Derived.Deep.Cut
import Derived.StillTailTactics
import Derived.IntWalk
import Derived.Deep.RegionHeld3
import Derived.Deep.RegionLaw
import Derived.Deep.AppendLies
namespace Go.Proofs.YtelbfeidpcojmaaGreat
open Go.RowKit
set_option linter.unusedVariables false
set_option linter.unusedSimpArgs false

theorem infoBlkP : (Tryz.prog.info? 139).map (fun i => (i.zero, i.size, i.bytes)) = some (some (.pointer none), 1, 8) := by kernel_rfl
theorem infoBlkS : (Tryz.prog.info? 107).map (fun i => (i.zero, i.size, i.bytes)) = some (some (.slice none 0 0), 1, 24) := by kernel_rfl
theorem make_blkP (n : Nat) (hn : n ≤ 1000000000000) (w : World) :
    (Instr.makeSlice 107 (.int .i64 (n : Int)) (.int .i64 (n : Int))).run Tryz.prog w = .ok (.slice (some ⟨w.heap.size, 0, none⟩) n n) (w.alloc (.cells (zeroRow (.pointer none) n) 139)) := by
  obtain ⟨i0, hi, hz0, hz1, hz2⟩ := info_parts infoBlkP
  have := run_make_rowN (P := Tryz.prog) 107 139 i0 _ Tryz.underlying107 hi hz0 .i64 .i64 n n (Nat.le_refl _) (by rw [hz2]; omega) (by omega) w
  rw [hz1, Nat.mul_one] at this
  exact this
theorem make_blkS (n : Nat) (hn : n ≤ 1000000000000) (w : World) :
    (Instr.makeSlice 106 (.int .i64 (n : Int)) (.int .i64 (n : Int))).run Tryz.prog w = .ok (.slice (some ⟨w.heap.size, 0, none⟩) n n) (w.alloc (.cells (zeroRow (.slice none 0 0) n) 107)) := by
  obtain ⟨i0, hi, hz0, hz1, hz2⟩ := info_parts infoBlkS
  have := run_make_rowN (P := Tryz.prog) 106 107 i0 _ Tryz.underlying106 hi hz0 .i64 .i64 n n (Nat.le_refl _) (by rw [hz2]; omega) (by omega) w
  rw [hz1, Nat.mul_one] at this
  exact this

theorem scanA_lt (l : List Cd) : ∀ n d, scanA l n d < n
  | 0, d => by simp [scanA]
  | n + 1, d => by
    have h1 := scanA_lt l n d
    have h2 := scanA_lt l n (d + 1)
    unfold scanA
    split
    · omega
    · split
      · cases d with
        | zero => simp; omega
        | succ d => have := scanA_lt l n d; simp; omega
      · split <;> omega
theorem aroundN_le (l : List Cd) (k : Nat) : aroundN l k ≤ k := by
  have := scanA_lt l k 0
  unfold aroundN aroundOf
  omega

/-- The place whose block place j opens, divides or closes. -/
def ownP (l : List Cd) (j : Nat) : Option Nat :=
  if opB (cdAt l j) then some j else if (cdAt l j).op == 12 || (cdAt l j).op == 14 then some (aroundN l j) else none
theorem ownP_le {l : List Cd} {j p : Nat} (h : ownP l j = some p) : p ≤ j := by
  unfold ownP at h
  split at h
  · injection h with h; omega
  · split at h
    · injection h with h; have := aroundN_le l j; omega
    · cases h

def ptrV (ga : Nat → Nat) (p : Nat) : Value := .pointer (some ⟨ga p, 0, none⟩)
def ownV (l : List Cd) (ga : Nat → Nat) (j : Nat) : Value := match ownP l j with
  | some p => ptrV ga p
  | none => .pointer none
def ownRow (l : List Cd) (ga : Nat → Nat) (k : Nat) : List Value := (List.range l.length).map fun j => if j < k then ownV l ga j else .pointer none

theorem ownRow_length (l : List Cd) (ga : Nat → Nat) (k : Nat) : (ownRow l ga k).length = l.length := by simp [ownRow]
theorem ownRow_get (l : List Cd) (ga : Nat → Nat) (k j : Nat) (h : j < l.length) : (ownRow l ga k)[j]? = some (if j < k then ownV l ga j else .pointer none) := by
  simp [ownRow, h]
theorem ownRow_zero (l : List Cd) (ga : Nat → Nat) : ownRow l ga 0 = List.replicate l.length (.pointer none) := by
  apply List.ext_getElem?
  intro j
  by_cases h : j < l.length <;> simp [ownRow, h]
theorem ownRow_set {l : List Cd} {ga ga' : Nat → Nat} {k : Nat} (hk : k < l.length) (v : Value) (hv : v = ownV l ga' k) (hg : ∀ p, p < k → ga' p = ga p) : (ownRow l ga k).set k v = ownRow l ga' (k + 1) := by
  subst hv
  apply List.ext_getElem?
  intro j
  rw [List.getElem?_set, ownRow_length]
  by_cases hj : j < l.length
  · rw [ownRow_get l ga' _ _ hj]
    by_cases e : k = j
    · subst e
      rw [if_pos rfl, if_pos hj, if_pos (by omega)]
    · rw [if_neg e, ownRow_get l ga _ _ hj]
      by_cases h2 : j < k
      · rw [if_pos h2, if_pos (by omega)]
        congr 1
        unfold ownV
        split
        · rename_i p hp
          have := ownP_le hp
          simp only [ptrV, hg p (by omega)]
        · rfl
      · rw [if_neg h2, if_neg (by omega)]
  · rw [if_neg (by omega), List.getElem?_eq_none (by rw [ownRow_length]; omega), List.getElem?_eq_none (by rw [ownRow_length]; omega)]
theorem ownRow_same {l : List Cd} {ga : Nat → Nat} {k : Nat} (hk : k < l.length) (hv : ownV l ga k = .pointer none) : ownRow l ga k = ownRow l ga (k + 1) := by
  have := ownRow_set (ga := ga) hk _ hv.symm (fun _ _ => rfl)
  rw [← this]
  refine (List.ext_getElem? fun j => ?_)
  rw [List.getElem?_set, ownRow_length]
  by_cases e : k = j
  · subst e
    rw [if_pos rfl, if_pos hk, ownRow_get _ _ _ _ hk, if_neg (by omega)]
  · rw [if_neg e]

/-- The memory of the loop. -/
structure WInv (w : World) (l : List Cd) (k : Nat) (st : List Nat) (ga : Nat → Nat) (oth en : Nat → Int) (As : Option Addr) (cs : Nat) (wr : World) : Prop where
  arr : ∃ arv, OR wr w.heap.size 107 1 (some ⟨w.heap.size, 0, none⟩) l.length l.length arv
  own : OR wr w.heap.size 139 1 (some ⟨w.heap.size + 1, 0, none⟩) l.length l.length (ownRow l ga k)
  stk : OR wr (w.heap.size + 2) 139 1 As st.length cs (st.reverse.map (ptrV ga))
  blk : ∀ p, p < k → opB (cdAt l p) = true → w.heap.size + 2 ≤ ga p ∧ wr.heap[ga p]? = some (.cells #[.int .i64 p, .int .i64 (oth p), .int .i64 (en p)] 141 (0, 0))
  inj : ∀ p q, p < k → q < k → opB (cdAt l p) = true → opB (cdAt l q) = true → ga p = ga q → p = q
  bel : Below w.heap.size w wr
  siz : w.heap.size + 2 ≤ wr.heap.size

section
variable {w wr w' : World} {l : List Cd} {k : Nat} {st : List Nat} {ga : Nat → Nat} {oth en : Nat → Int} {As : Option Addr} {cs : Nat}
theorem WInv.ext (h : WInv w l k st ga oth en As cs wr) (hx : Ext wr w') : WInv w l k st ga oth en As cs w' := by
  obtain ⟨arv, ha⟩ := h.arr
  exact ⟨⟨arv, ha.ext hx⟩, h.own.ext hx, h.stk.ext hx, fun p hp ho => ⟨(h.blk p hp ho).1, hx.heap_ (h.blk p hp ho).2⟩, h.inj,
    h.bel.trans (hx.below.mono h.bel.size), Nat.le_trans h.siz hx.size⟩

theorem ownBlock_ne {g : Nat} (h : OR wr (w.heap.size + 2) 139 1 As st.length cs (st.reverse.map (ptrV ga))) (hg : g < w.heap.size + 2) : Value.ownBlock (.slice As st.length cs) ≠ some g := by
  intro e
  have := (h.block g e).1
  omega

theorem WInv.ga_ne_row (h : WInv w l k st ga oth en As cs wr) {p g : Nat} (hp : p < k) (ho : opB (cdAt l p) = true) (hg : ∃ cur, wr.heap[g]? = some (.cells cur 139 (0, 0))) : ga p ≠ g := by
  intro e
  obtain ⟨cur, hc⟩ := hg
  have h1 := (h.blk p hp ho).2
  rw [e, hc] at h1
  injection h1 with h1
  injection h1 with _ h2
  exact absurd h2 (by decide)

/-- Around row: a store at place j. -/
theorem WInv.set_arr (h : WInv w l k st ga oth en As cs wr) (j : Nat) (u : Value) : WInv w l k st ga oth en As cs (wr.setCell ⟨w.heap.size, j, none⟩ u) := by
  obtain ⟨arv, ha⟩ := h.arr
  refine ⟨⟨_, ha.at0.2.2 j u⟩, ?_, ?_, fun p hp ho => ?_, h.inj, h.bel.setCell (Nat.le_refl _) u, by rw [size_set]; exact h.siz⟩
  · exact h.own.set_other (by simp [Value.ownBlock]) u
  · exact h.stk.set_other (ownBlock_ne h.stk (by simp)) u
  · have hb := h.blk p hp ho
    exact ⟨hb.1, by rw [heap_set_other (by omega)]; exact hb.2⟩

/-- A store of a pointer into the row 'own'. -/
theorem WInv.set_own (h : WInv w l k st ga oth en As cs wr) (u : Value) : (OR (wr.setCell ⟨w.heap.size + 1, k, none⟩ u) w.heap.size 139 1 (some ⟨w.heap.size + 1, 0, none⟩) l.length l.length ((ownRow l ga k).set k u)) ∧
    (∃ arv, OR (wr.setCell ⟨w.heap.size + 1, k, none⟩ u) w.heap.size 107 1 (some ⟨w.heap.size, 0, none⟩) l.length l.length arv) ∧
    OR (wr.setCell ⟨w.heap.size + 1, k, none⟩ u) (w.heap.size + 2) 139 1 As st.length cs (st.reverse.map (ptrV ga)) ∧
    (∀ p, p < k → opB (cdAt l p) = true → w.heap.size + 2 ≤ ga p ∧ (wr.setCell ⟨w.heap.size + 1, k, none⟩ u).heap[ga p]? = some (.cells #[.int .i64 p, .int .i64 (oth p), .int .i64 (en p)] 141 (0, 0))) := by
  obtain ⟨arv, ha⟩ := h.arr
  refine ⟨h.own.at0.2.2 k u, ⟨arv, ha.set_other (by simp [Value.ownBlock]) u⟩, h.stk.set_other (ownBlock_ne h.stk (by simp)) u, fun p hp ho => ?_⟩
  have hb := h.blk p hp ho
  exact ⟨hb.1, by rw [heap_set_other (by omega)]; exact hb.2⟩

def updN (s : Nat → Nat) (k v : Nat) : Nat → Nat := fun j => if j = k then v else s j

/-- A pointer block is no block of the stack's row. -/
theorem WInv.ga_ne_stk (h : WInv w l k st ga oth en As cs wr) {p : Nat} (hp : p < k) (ho : opB (cdAt l p) = true) : some (ga p) ≠ Value.ownBlock (.slice As st.length cs) := by
  intro e
  cases As with
  | none => simp [Value.ownBlock] at e
  | some a =>
    have e' : a.block = ga p := by simp [Value.ownBlock] at e; exact e.symm
    rcases h.stk.2 with ⟨hv, _⟩ | ⟨g, cap, cur, hv, _, hg, _⟩
    · cases hv
    · injection hv with hA _ _
      injection hA with hA
      subst hA
      exact h.ga_ne_row hp ho ⟨cur, hg⟩ e'.symm

/-- A new block at place k: stored into 'own', appended to the stack. -/
theorem WInv.push (h : WInv w l k st ga oth en As cs wr) (hlt : ∀ p, p ∈ st → p < k) (hk : k < l.length) (ho : opB (cdAt l k) = true) {A2 : Option Addr} {c2 : Nat} {w6 : World}
    (h6 : OR w6 (w.heap.size + 2) 139 1 A2 (st.length + 1) c2 (st.reverse.map (ptrV ga) ++ [.pointer (some ⟨wr.heap.size, 0, none⟩)]))
    (hg : (((wr.setCell ⟨w.heap.size + 1, k, none⟩ (.pointer (some ⟨wr.heap.size, 0, none⟩))).alloc (.cells #[.int .i64 k, .int .i64 (-1), .int .i64 (-1)] 141)).alloc (.cells #[.pointer (some ⟨wr.heap.size, 0, none⟩)] 139)).grownBy w6 (Value.ownBlock (.slice As st.length cs))) :
    WInv w l (k + 1) (k :: st) (updN ga k wr.heap.size) (updI oth k (-1)) (updI en k (-1)) A2 c2 w6 := by
  have hsz := h.siz
  have h1 := h
  obtain ⟨o1, ⟨arv, a1⟩, s1, b1⟩ := h1.set_own (.pointer (some ⟨wr.heap.size, 0, none⟩))
  have hbel := h1.bel.setCell (p := ⟨w.heap.size + 1, k, none⟩) (Nat.le_succ _) (.pointer (some ⟨wr.heap.size, 0, none⟩))
  have hs2 : (wr.setCell ⟨w.heap.size + 1, k, none⟩ (.pointer (some ⟨wr.heap.size, 0, none⟩))).heap.size = wr.heap.size := by rw [size_set]
  generalize wr.setCell ⟨w.heap.size + 1, k, none⟩ (.pointer (some ⟨wr.heap.size, 0, none⟩)) = w2 at *
  have hnew : (w2.alloc (.cells #[.int .i64 k, .int .i64 (-1), .int .i64 (-1)] 141)).heap[wr.heap.size]? = some (.cells #[.int .i64 k, .int .i64 (-1), .int .i64 (-1)] 141 (0, 0)) := by
    have := heap_alloc_new w2 (.cells #[.int .i64 k, .int .i64 (-1), .int .i64 (-1)] 141)
    rwa [hs2] at this
  have hX0 := Ext.alloc w2 (.cells #[.int .i64 k, .int .i64 (-1), .int .i64 (-1)] 141)
  have hs3 : (w2.alloc (.cells #[.int .i64 k, .int .i64 (-1), .int .i64 (-1)] 141)).heap.size = wr.heap.size + 1 := by simp [hs2]
  have hX1 := Ext.alloc (w2.alloc (.cells #[.int .i64 k, .int .i64 (-1), .int .i64 (-1)] 141)) (.cells #[.pointer (some ⟨wr.heap.size, 0, none⟩)] 139)
  have hX := hX0.trans hX1
  have hnew2 := hX1.heap_ hnew
  have hs4 : ((w2.alloc (.cells #[.int .i64 k, .int .i64 (-1), .int .i64 (-1)] 141)).alloc (.cells #[.pointer (some ⟨wr.heap.size, 0, none⟩)] 139)).heap.size = wr.heap.size + 2 := by simp [hs2]
  generalize (w2.alloc (.cells #[.int .i64 k, .int .i64 (-1), .int .i64 (-1)] 141)).alloc (.cells #[.pointer (some ⟨wr.heap.size, 0, none⟩)] 139) = w3 at *
  have hga : ∀ p, p < k → updN ga k wr.heap.size p = ga p := fun p hp => by simp [updN, show p ≠ k by omega]
  have hgalt : ∀ p, p < k → opB (cdAt l p) = true → ga p < wr.heap.size := fun p hp hop => lt_of_block (h.blk p hp hop).2
  have hpk : ∀ p, p < k + 1 → p ≠ k → p < k := fun p a b => by omega
  refine ⟨⟨arv, (a1.ext hX).kept hg (.inr (Ne.symm (ownBlock_ne (w := w) h.stk (by simp))))⟩, ?_, ?_, ?_, ?_, ?_, ?_⟩
  · have := (o1.ext hX).kept hg (.inr (Ne.symm (ownBlock_ne (w := w) h.stk (by simp))))
    rw [ownRow_set (ga' := updN ga k wr.heap.size) hk _ (by simp [ownV, ownP, ho, ptrV, updN]) hga] at this
    exact this
  · have e : (k :: st).reverse.map (ptrV (updN ga k wr.heap.size)) = st.reverse.map (ptrV ga) ++ [.pointer (some ⟨wr.heap.size, 0, none⟩)] := by
      rw [List.reverse_cons, List.map_append]
      congr 1
      · apply List.map_congr_left
        intro p hp
        have := hlt p (by simpa using hp)
        simp only [ptrV, hga p this]
      · simp [ptrV, updN]
    rw [e]
    exact h6
  · intro p hp hop
    by_cases e : p = k
    · subst e
      refine ⟨by simp [updN]; omega, ?_⟩
      have hne : some wr.heap.size ≠ Value.ownBlock (.slice As st.length cs) := fun e => by have := (h.stk.block _ e.symm).2; omega
      have e1 : updN ga p wr.heap.size p = wr.heap.size := by simp [updN]
      rw [e1, hg.block _ (by omega) hne, hnew2]
      simp [updI]
    · have hp' := hpk p hp e
      rw [hga p hp']
      refine ⟨(h.blk p hp' hop).1, ?_⟩
      rw [hg.block _ (by have := hgalt p hp' hop; omega) (h.ga_ne_stk hp' hop), hX.heap_ (b1 p hp' hop).2]
      simp [updI, e]
  · intro p q hp hq hop hoq he
    by_cases e1 : p = k <;> by_cases e2 : q = k
    · omega
    · subst e1
      rw [hga q (hpk q hq e2)] at he
      have := hgalt q (hpk q hq e2) hoq
      simp [updN] at he
      omega
    · subst e2
      rw [hga p (hpk p hp e1)] at he
      have := hgalt p (hpk p hp e1) hop
      simp [updN] at he
      omega
    · rw [hga p (hpk p hp e1), hga q (hpk q hq e2)] at he
      exact h.inj p q (hpk p hp e1) (hpk q hq e2) hop hoq he
  · exact (hbel.trans (hX.below.mono (by omega))).grown hg (by omega) (fun g e => by have := (h.stk.block g e).1; omega)
  · have := hg.size
    omega

/-- A field of the block that is opened at p is written. -/
theorem WInv.set_blk (h : WInv w l k st ga oth en As cs wr) (ho : opB (cdAt l k) = false) {p f : Nat} (hp : p < k) (hop : opB (cdAt l p) = true) (hk : k < l.length) (hv : ownV l ga k = ptrV ga p) (u : Int) (oth' en' : Nat → Int)
    (ho' : ∀ q, q < k → opB (cdAt l q) = true → (if q = p then (#[Value.int .i64 p, .int .i64 (oth p), .int .i64 (en p)] : Array Value).setIfInBounds f (.int .i64 u) else #[.int .i64 q, .int .i64 (oth q), .int .i64 (en q)]) = #[.int .i64 q, .int .i64 (oth' q), .int .i64 (en' q)]) :
    WInv w l (k + 1) st ga oth' en' As cs ((wr.setCell ⟨w.heap.size + 1, k, none⟩ (ptrV ga p)).setCell ⟨ga p, f, none⟩ (.int .i64 u)) := by
  obtain ⟨o1, ⟨arv, a1⟩, s1, b1⟩ := h.set_own (ptrV ga p)
  have hbel := h.bel.setCell (p := ⟨w.heap.size + 1, k, none⟩) (Nat.le_succ _) (ptrV ga p)
  have hs2 : (wr.setCell ⟨w.heap.size + 1, k, none⟩ (ptrV ga p)).heap.size = wr.heap.size := size_set _ _ _
  generalize wr.setCell ⟨w.heap.size + 1, k, none⟩ (ptrV ga p) = w2 at *
  have hg := (h.blk p hp hop).1
  have hpk : ∀ q, q < k + 1 → opB (cdAt l q) = true → q < k := fun q hq hoq => by
    by_cases e : q = k
    · subst e; rw [ho] at hoq; cases hoq
    · omega
  refine ⟨⟨arv, a1.set_other (by simp [Value.ownBlock]; omega) _⟩, ?_, ?_, ?_, fun a b ha hb hoa hob => h.inj a b (hpk a ha hoa) (hpk b hb hob) hoa hob, hbel.setCell (by show _ ≤ ga p; omega) _, by rw [size_set, hs2]; exact h.siz⟩
  · rw [ownRow_set (ga' := ga) hk _ hv.symm (fun _ _ => rfl)] at o1
    exact o1.set_other (by simp [Value.ownBlock]; omega) _
  · exact s1.set_other (Ne.symm (h.ga_ne_stk hp hop)) _
  · intro q hq hoq
    have hq' := hpk q hq hoq
    refine ⟨(h.blk q hq' hoq).1, ?_⟩
    rw [← ho' q hq' hoq]
    by_cases e : q = p
    · subst e
      rw [if_pos rfl]
      exact heap_set_same (b1 q hq' hoq).2 f _
    · rw [if_neg e, heap_set_other (fun e2 => e (h.inj q p hq' hp hoq hop e2))]
      exact (b1 q hq' hoq).2
theorem WInv.pop (h : WInv w l k st ga oth en As cs wr) {p : Nat} {s : List Nat} (hs : st = p :: s) : WInv w l k s ga oth en As cs wr := by
  subst hs
  refine ⟨h.arr, h.own, ?_, h.blk, h.inj, h.bel, h.siz⟩
  have := h.stk.take_ (m := s.length) (by simp)
  have e : ((p :: s).reverse.map (ptrV ga)).take (s.length * 1) = s.reverse.map (ptrV ga) := by
    rw [List.reverse_cons, List.map_append, List.take_append_of_le_length (by simp), List.take_of_length_le (by simp)]
  rw [e] at this
  exact this

/-- Nothing of the row 'own' is written at place k. -/
theorem WInv.next (h : WInv w l k st ga oth en As cs wr) (hk : k < l.length) (ho : opB (cdAt l k) = false) (h2 : (cdAt l k).op ≠ 12) (h3 : (cdAt l k).op ≠ 14) : WInv w l (k + 1) st ga oth en As cs wr := by
  have hv : ownV l ga k = .pointer none := by simp [ownV, ownP, ho, h2, h3]
  have hp : ∀ p, p < k + 1 → opB (cdAt l p) = true → p < k := fun p hp hop => by
    by_cases e : p = k
    · subst e; rw [ho] at hop; cases hop
    · omega
  exact ⟨h.arr, by rw [← ownRow_same hk hv]; exact h.own, h.stk, fun p hp' hop => h.blk p (hp p hp' hop) hop, fun p q a b c d => h.inj p q (hp p a c) (hp q b d) c d, h.bel, h.siz⟩
end

theorem own_close {l : List Cd} {k p : Nat} {st : List Nat} {oth en : Nat → Int} {x : Cd} (ga : Nat → Nat) (hP : PInv l k (p :: st) oth en) (hx : l[k]? = some x) (ho : opB x = false) (h : x.op = 12 ∨ x.op = 14) : ownV l ga k = ptrV ga p := by
  have e : aroundN l k = p := by
    have := hP.aro 0
    simp at this
    simp [aroundN, aroundOf, this]
  have e2 : ((cdAt l k).op == 12 || (cdAt l k).op == 14) = true := by
    rw [cdAt_get hx]
    rcases h with h | h <;> simp [h]
  simp [ownV, ownP, cdAt_get hx, ho, e]
  rcases h with h | h <;> simp [h]
def BlkPost (w : World) (l : List Cd) (e : Ending) (w' : World) : Prop :=
  Below w.heap.size w w' ∧
    ((pvRun [] l = some [] ∧ e = .returned (.tuple #[.slice (some ⟨w.heap.size, 0, none⟩) l.length l.length, .slice (some ⟨w.heap.size + 1, 0, none⟩) l.length l.length, .bool true]) ∧
      ∃ ga oth en As cs, WInv w l l.length [] ga oth en As cs w' ∧ PInv l l.length [] oth en) ∨
    (pvRun [] l ≠ some [] ∧ ∃ v1 v2, e = .returned (.tuple #[v1, v2, .bool false])))

theorem BlkPost.no {w w' : World} {l : List Cd} {v1 v2 : Value} (hb : Below w.heap.size w w') (h : pvRun [] l = none) : BlkPost w l (.returned (.tuple #[v1, v2, .bool false])) w' :=
  ⟨hb, .inr ⟨by rw [h]; simp, _, _, rfl⟩⟩

def BRel (w : World) (l : List Cd) (sv iv : Value) (wr : World) : Prop :=
  ∃ (k : Nat) (st : List Nat) (ga : Nat → Nat) (oth en : Nat → Int) (As : Option Addr) (cs : Nat),
    sv = .slice As st.length cs ∧ iv = .int .i64 k ∧ WInv w l k st ga oth en As cs wr ∧ PInv l k st oth en

set_option maxRecDepth 100000 in
set_option maxHeartbeats 4000000 in
theorem blocks_c (A : Option Addr) (c : Nat) (l : List Cd) (w : World) (hA : RdC w w.heap.size A l) (hl : l.length ≤ 1000) (hv : ∀ x, x ∈ l → cvOk x = true) :
    Calls Tryz.prog 84 #[.slice A l.length c] w (BlkPost w l) := by
  have hm1 := make_blkP l.length (by omega)
  have hm2 := make_blkS l.length (by omega)
  go_enter Tryz.func84, Tryz.ntmps84
  go_wp2
  have hz1 := zeroRow_size (.slice none 0 0) l.length
  have hz2 := zeroRow_size (.pointer none) l.length
  have hz3 : (zeroRow (.pointer none) l.length).toList = ownRow l (fun _ => 0) 0 := by rw [ownRow_zero]; exact toList_madeCells_one _ _
  have hW : WInv w l 0 [] (fun _ => 0) (fun _ => -1) (fun _ => -1) none 0 ((w.alloc (.cells (zeroRow (.slice none 0 0) l.length) 107)).alloc (.cells (zeroRow (.pointer none) l.length) 139)) := by
    refine ⟨⟨_, (OR.lit w w.heap.size _ 1 l.length _ (Nat.le_refl _) (by omega) (by rw [hz1]; omega)).alloc _⟩, ?_, OR.nil_ _ _ _ _, fun p hp => by omega, fun p q hp => by omega, (by repeat (first | exact Below.refl _ _ | assumption | refine Below.alloc ?_ (by simp <;> omega) _ | refine Below.setCell ?_ (by simp <;> omega) _ | refine Below.drew ?_)), by simp⟩
    have := OR.lit (w.alloc (.cells (zeroRow (.slice none 0 0) l.length) 107)) w.heap.size 139 1 l.length _ (by simp) (by omega) (show (zeroRow (.pointer none) l.length).size = l.length * 1 by rw [hz2]; omega)
    rw [hz3] at this
    simpa using this
  generalize (w.alloc (.cells (zeroRow (.slice none 0 0) l.length) 107)).alloc (.cells (zeroRow (.pointer none) l.length) 139) = w0 at *
  clear hz1 hz2 hz3 hm1 hm2
  go_loopw [7, 19] (fun sv iv wr => BRel w l sv iv wr) (fun _ i _ => l.length - (intOf i).toNat)
  case atStart => exact ⟨0, [], _, _, _, none, 0, rfl, rfl, hW, PInv.start l⟩
  case round =>
    obtain ⟨k, st, ga, oth, en, As, cs, rfl, rfl, hI, hP⟩ := hrel
    clear hW
    have hk := hP.hk
    by_cases hlt : k < l.length
    · obtain ⟨b, off, x, rfl, hbB, hx, c0, c1, c2, c3⟩ := (hA.below hI.bel).at_ hlt
      have hvx := hv x (List.mem_of_getElem? hx)
      have HX := Lib.hid hx
      clear hx
      have hs3 := hP.s3
      have hsz := hI.siz
      obtain ⟨arv, harr⟩ := hI.arr
      have hB : OR ((wr.alloc (.cells #[.int .i64 x.op, .int .i64 x.a, .int .i64 x.b, .int .i64 x.c] 76)).alloc (.cells #[] 139)) (wr.heap.size + 1) 139 1 (some ⟨wr.heap.size + 1, 0, none⟩) 0 0 [] := by
        have := OR.lit ((wr.alloc (.cells #[.int .i64 x.op, .int .i64 x.a, .int .i64 x.b, .int .i64 x.c] 76))) (wr.heap.size + 1) 139 1 0 #[] (by simp) (by omega) rfl
        simpa using this
      have HB := Lib.hid hB
      clear hB
      have HS := Lib.hid ((hI.stk.alloc (.cells #[.int .i64 x.op, .int .i64 x.a, .int .i64 x.b, .int .i64 x.c] 76)).alloc (.cells #[] 139))
      go_wp2_with (at_builtin; go_loud (refine app_own 107 139 _ 1 8 Tryz.underlying107 infoBlkP rfl (by decide) (by decide) rfl _ _ rfl _ _ _ _ _ HB.out rfl _ _ _ _ _ HS.out rfl ?ho ?hn ?hb ?_))
      case ho => intro u hu; simp [ptrV] at hu; obtain ⟨p, _, rfl⟩ := hu; rfl
      case hn => omega
      case hb => simp
      intro A' c' w3 ho3 hg3
      have hX3 : Ext wr w3 := ((Ext.alloc wr (.cells #[.int .i64 x.op, .int .i64 x.a, .int .i64 x.b, .int .i64 x.c] 76)).trans (Ext.alloc _ (.cells #[] 139))).grown hg3 (fun k hk => by simp [Value.ownBlock] at hk; omega)
      have hI3 := hI.ext hX3
      have hop3 : w3.cell? ⟨wr.heap.size, 0, none⟩ = some (.int .i64 x.op) := hg3.cell (a := ⟨wr.heap.size, 0, none⟩) (by simp [go_sem]) (by simp [Value.ownBlock])
      have hne1 : ¬ wr.heap.size = w.heap.size := by omega
      have hne2 : ¬ w.heap.size + 1 = w3.heap.size := by have := hI3.siz; omega
      have hlt2 : w.heap.size + 1 < w3.heap.size := by have := hI3.siz; omega
      have hlt3 : w.heap.size < w3.heap.size := by have := hI3.siz; omega
      obtain ⟨arv3, harr3⟩ := hI3.arr
      obtain ⟨u0, hu0⟩ := harr3.some_cell k (by omega)
      have hu1 := harr3.at0.2.1 k
      have hne0 : ¬ w.heap.size = wr.heap.size := by omega
      clear HB HS harr3 hg3 ho3 harr
      go_upto_region 8 with (fail)
      have hI4 := hI3.set_arr k (.slice A' st.length c')
      have hop4 : (w3.setCell ⟨w.heap.size, k, none⟩ (.slice A' st.length c')).cell? ⟨wr.heap.size, 0, none⟩ = some (.int .i64 x.op) := by rw [World.cell?_setCell_other _ _ _ _ (by simp [hne1])]; exact hop3
      clear hop3 hu0 hu1
      generalize w3.setCell ⟨w.heap.size, k, none⟩ (.slice A' st.length c') = w4 at *
      clear hI3 hX3 hne2 hlt2 hlt3
      have hne2 : ¬ w.heap.size + 1 = w4.heap.size := by have := hI4.siz; omega
      have hlt2 : w.heap.size + 1 < w4.heap.size := by have := hI4.siz; omega
      have hlt3 : w.heap.size < w4.heap.size := by have := hI4.siz; omega
      by_cases hoB : opB x = true
      · have ho' : x.op = 11 ∨ x.op = 13 := by simpa [opB] using hoB
        have ho1 := hI4.own.at0.1 k _ (ownRow_get l ga k k hlt)
        have ho2 := hI4.own.at0.2.1 k
        rw [if_neg (Nat.lt_irrefl _)] at ho1
        rcases ho' with h | h
        all_goals
          first | have e11 : (x.op == 11) = true := by simp [h] | have e11 : (x.op == 11) = false := by simp [h]
          first | have e13 : (x.op == 13) = true := by simp [h] | have e13 : (x.op == 13) = false := by simp [h]
          clear h
          have hs5 := ((hI4.stk.set_other (p := ⟨w.heap.size + 1, k, none⟩) (ownBlock_ne (w := w) hI4.stk (by simp)) (.pointer (some ⟨w4.heap.size, 0, none⟩))).alloc (.cells #[.int .i64 k, .int .i64 (-1), .int .i64 (-1)] 141)).alloc (.cells #[.pointer (some ⟨w4.heap.size, 0, none⟩)] 139)
          have HS5 := Lib.hid hs5
          clear hs5
          by_cases h3 : st.length < 3
          · have h4 : ¬ 3 < st.length + 1 := by omega
            go_wp2_with (at_builtin; refine app_row 107 139 _ 1 8 Tryz.underlying107 infoBlkP rfl (by decide) (by decide) rfl _ _ rfl (w.heap.size + 2) _ _ _ _ HS5.out rfl (w4.heap.size + 1) 1 1 [.pointer (some ⟨w4.heap.size, 0, none⟩)] rfl rfl ?hc ?h1 ?hn ?hb ?_)
            case hc =>
              intro j u hu
              match j, hu with
              | 0, hu => simp at hu; subst hu; simp [go_sem]
            case h1 => intro u hu; simp at hu; subst hu; rfl
            case hn => omega
            case hb => have := hI4.siz; simp; omega
            intro A2 c2 w6 ho6 hg6
            clear HS5
            go_wp2
            go_roundw
            case rel => exact ⟨k + 1, k :: st, _, _, _, A2, c2, rfl, by go_num, hI4.push (fun p hp => (hP.st_lt p hp).1) hlt (by rw [cdAt_get HX.out]; exact hoB) (by rw [List.map_reverse]; exact ho6) hg6, hP.open_ HX.out hvx hoB h3⟩
            case measure => simp [intOf]; omega
          · have h4 : 3 < st.length + 1 := by omega
            go_wp2_with (at_builtin; refine app_row 107 139 _ 1 8 Tryz.underlying107 infoBlkP rfl (by decide) (by decide) rfl _ _ rfl (w.heap.size + 2) _ _ _ _ HS5.out rfl (w4.heap.size + 1) 1 1 [.pointer (some ⟨w4.heap.size, 0, none⟩)] rfl rfl ?hc ?h1 ?hn ?hb ?_)
            case hc =>
              intro j u hu
              match j, hu with
              | 0, hu => simp at hu; subst hu; simp [go_sem]
            case h1 => intro u hu; simp at hu; subst hu; rfl
            case hn => omega
            case hb => have := hI4.siz; simp; omega
            intro A2 c2 w6 ho6 hg6
            clear HS5
            go_wp2
            go_ret3
            have hI6 := hI4.push (fun p hp => (hP.st_lt p hp).1) hlt (by rw [cdAt_get HX.out]; exact hoB) (by rw [List.map_reverse]; exact ho6) hg6
            refine .no hI6.bel (pv_none HX.out hP.pvs ?_)
            have ho2 : x.op = 11 ∨ x.op = 13 := by simpa [opB] using hoB
            rcases ho2 with h | h <;> simp [pvStep, hvx, h, Nat.not_lt.1 h3]
      · have hoF : opB x = false := by simpa using hoB
        have n11 : x.op ≠ 11 := fun e => hoB (by simp [opB, e])
        have n13 : x.op ≠ 13 := fun e => hoB (by simp [opB, e])
        have e11 : (x.op == 11) = false := beq_eq_false_iff_ne.2 n11
        have e13 : (x.op == 13) = false := beq_eq_false_iff_ne.2 n13
        by_cases h12 : x.op = 12
        · have e12 : (x.op == 12) = true := beq_iff_eq.2 h12
          have HO := Lib.hid h12
          clear n11 n13 hoB h12
          cases st with
          | nil =>
            go_wp2
            go_ret3
            refine .no hI4.bel (pv_none HX.out hP.pvs ?_)
            have := HO.out
            simp [pvStep, hvx, this]
          | cons p st =>
            have hp := hP.st_lt p (by simp)
            have hpl : p < l.length := by omega
            obtain ⟨g, rfl, hg1, hg2, hcell, hfr, -⟩ := hI4.stk.at_ (by simp)
            have hst := hcell st.length (.pointer (some ⟨ga p, 0, none⟩)) (by simp [ptrV])
            have hbk := hI4.blk p hp.1 hp.2
            have d0 : w4.cell? ⟨ga p, 0, none⟩ = some (.int .i64 p) := cell_of_heap hbk.2 0
            have d1 : w4.cell? ⟨ga p, 1, none⟩ = some (.int .i64 (oth p)) := cell_of_heap hbk.2 1
            have df := free_of_heap hbk.2 1
            have ho1 := hI4.own.at0.1 k _ (ownRow_get l ga k k hlt)
            have ho2 := hI4.own.at0.2.1 k
            rw [if_neg (Nat.lt_irrefl _)] at ho1
            have hxp : l[p]? = some (cdAt l p) := by rw [List.getElem?_eq_getElem hpl, cdAt_get (List.getElem?_eq_getElem hpl)]
            have hlp := ((hA.below hI4.bel).at0 hxp).2.1
            have hbk1 := hbk.1
            have hp1 := hp.1
            have hgne1 : ¬ g = w.heap.size + 1 := by omega
            have hgne2 : ¬ ga p = w.heap.size + 1 := by omega
            have hgne3 : ¬ b = w.heap.size + 1 := by omega
            have HP := Lib.hid hp
            have HBK := Lib.hid hbk
            have HXP := Lib.hid hxp
            clear hbk hfr hcell hp hxp
            have hs2 : st.length ≤ 2 := by simp at hs3; omega
            have HP0 := Lib.hid hP
            have HI := Lib.hid hI4
            have HF := Lib.hid hoF
            have HV := Lib.hid hvx
            by_cases hif : (cdAt l p).op = 11
            · have eif : ((cdAt l p).op != 11) = false := by simp [hif]
              have HIF := Lib.hid hif
              clear hif
              by_cases hot : oth p < 0
              · have eot : ¬ 0 ≤ oth p := by omega
                clear hP hI hI4 hA hv hs3 hsz hoF hvx hk
                go_wp2_with fail
                go_roundw
                case rel =>
                  refine ⟨k + 1, p :: st, ga, updI oth p k, en, _, cs, rfl, by go_num, ?_, HP0.out.els_ HX.out HV.out HO.out HIF.out hot⟩
                  refine HI.out.set_blk (by rw [cdAt_get HX.out]; exact HF.out) HP.out.1 HP.out.2 hlt (own_close ga HP0.out HX.out HF.out (.inl HO.out)) k _ _ (fun q hq hoq => ?_)
                  by_cases e : q = p
                  · subst e; simp [updI]
                  · simp [updI, e]
                case measure => simp [intOf]; omega
              · have eot : 0 ≤ oth p := by omega
                clear hP hI hI4 hA hv hs3 hsz hoF hvx hk
                go_wp2_with fail
                go_ret3
                refine .no HI.out.bel (pv_none HX.out HP0.out.pvs ?_)
                have em : mark l oth p = 12 := by simp [mark, HIF.out, eot]
                simp [pvStep, HV.out, HO.out, em]
            · have eif : ((cdAt l p).op != 11) = true := by simp [hif]
              have HIF := Lib.hid hif
              clear hif hP hI hI4 hA hv hs3 hsz hoF hvx hk
              go_wp2_with fail
              go_ret3
              refine .no HI.out.bel (pv_none HX.out HP0.out.pvs ?_)
              have h13 : (cdAt l p).op = 13 := by
                have := HP.out.2
                simp [opB, HIF.out] at this
                exact this
              have em : mark l oth p = 13 := by simp [mark, h13]
              simp [pvStep, HV.out, HO.out, em]
        · have e12 : (x.op == 12) = false := beq_eq_false_iff_ne.2 h12
          by_cases h14 : x.op = 14
          · have e14 : (x.op == 14) = true := beq_iff_eq.2 h14
            have HO := Lib.hid h14
            clear n11 n13 hoB h12 h14
            cases st with
            | nil =>
              go_wp2
              go_ret3
              refine .no hI4.bel (pv_none HX.out hP.pvs ?_)
              have := HO.out
              simp [pvStep, hvx, this]
            | cons p st =>
              have hp := hP.st_lt p (by simp)
              obtain ⟨g, rfl, hg1, hg2, hcell, hfr, -⟩ := hI4.stk.at_ (by simp)
              have hst := hcell st.length (.pointer (some ⟨ga p, 0, none⟩)) (by simp [ptrV])
              have hbk := hI4.blk p hp.1 hp.2
              have d2 : w4.cell? ⟨ga p, 2, none⟩ = some (.int .i64 (en p)) := cell_of_heap hbk.2 2
              have df := free_of_heap hbk.2 2
              have ho1 := hI4.own.at0.1 k _ (ownRow_get l ga k k hlt)
              have ho2 := hI4.own.at0.2.1 k
              rw [if_neg (Nat.lt_irrefl _)] at ho1
              have hbk1 := hbk.1
              have hp1 := hp.1
              have hgne1 : ¬ g = w.heap.size + 1 := by omega
              have hgne2 : ¬ ga p = w.heap.size + 1 := by omega
              have hgne4 : ¬ g = ga p := fun e => hI4.ga_ne_stk hp.1 hp.2 (by simp [Value.ownBlock, e])
              have h5 : st.length ≤ cs := by have := hI4.stk.cap_; simp at this; omega
              have hs2 : st.length ≤ 2 := by simp at hs3; omega
              have HP := Lib.hid hp
              have HP0 := Lib.hid hP
              have HI := Lib.hid hI4
              have HF := Lib.hid hoF
              have HV := Lib.hid hvx
              clear hbk hfr hcell hp hP hI hI4 hA hv hs3 hsz hoF hvx hk
              go_wp2_with fail
              go_roundw
              case rel =>
                refine ⟨k + 1, st, ga, oth, updI en p k, _, cs, rfl, by go_num, ?_, HP0.out.end_ HX.out HV.out HO.out⟩
                refine WInv.pop (p := p) ?_ rfl
                refine HI.out.set_blk (by rw [cdAt_get HX.out]; exact HF.out) HP.out.1 HP.out.2 hlt (own_close ga HP0.out HX.out HF.out (.inr HO.out)) k _ _ (fun q hq hoq => ?_)
                by_cases e : q = p
                · subst e; simp [updI]
                · simp [updI, e]
              case measure => simp [intOf]; omega
          · have e14 : (x.op == 14) = false := beq_eq_false_iff_ne.2 h14
            have hx := HX.out
            have hN := hI4.next hlt (by rw [cdAt_get hx]; exact hoF) (by rw [cdAt_get hx]; exact h12) (by rw [cdAt_get hx]; exact h14)
            have hQ := hP.same_ hx hvx hoF h12 h14
            have HN := Lib.hid hN
            have HQ := Lib.hid hQ
            clear hx hN hQ hP hI hI4 hA hv hsz hoF hvx hk n11 n13 h12 h14
            go_wp2_with fail
            go_roundw
            case rel => exact ⟨k + 1, st, ga, oth, en, As, cs, rfl, by go_num, HN.out, HQ.out⟩
            case measure => simp [intOf]; omega
    · obtain rfl : k = l.length := by omega
      have hp := hP.pvs
      rw [List.take_length] at hp
      have HP := Lib.hid hP
      have HQ := Lib.hid hp
      have HI := Lib.hid hI
      have hs3 := hP.s3
      clear hp hP hI hA hv hk
      cases st with
      | nil =>
        go_wp2_with fail
        go_ret3
        exact ⟨HI.out.bel, .inl ⟨HQ.out, rfl, ga, oth, en, As, cs, HI.out, HP.out⟩⟩
      | cons p st =>
        have hs2 : st.length ≤ 2 := by simp at hs3; omega
        have hnz : (((st.length : Int) + 1) == 0) = false := by rw [beq_eq_false_iff_ne]; omega
        clear hs3
        go_wp2_with fail
        go_ret3
        exact ⟨HI.out.bel, .inr ⟨by rw [HQ.out]; simp, _, _, rfl⟩⟩

theorem pvRun_bad : ∀ (l : List Cd) (s : List Int) (k : Nat) (x : Cd), l[k]? = some x → cvOk x = false → pvRun s l = none
  | [], s, k, x, h, _ => by simp at h
  | y :: l, s, 0, x, h, hv => by
    simp at h
    subst h
    simp [pvRun, pvStep, hv]
  | y :: l, s, k + 1, x, h, hv => by
    simp only [List.getElem?_cons_succ] at h
    simp only [pvRun]
    split
    · exact pvRun_bad l _ k x h hv
    · rfl
set_option maxRecDepth 100000 in
set_option maxHeartbeats 1000000 in
theorem iProgramValid_c (A : Option Addr) (c : Nat) (l : List Cd) (w : World) (hA : RdC w w.heap.size A l) (hl : l.length ≤ 1000000000) :
    Calls Tryz.prog 48 #[.slice A l.length c] w fun e w' => e = .returned (.bool (pv l)) ∧ Below w.heap.size w w' := by
  by_cases h40 : 40 < l.length
  · have hpv : pv l = false := by simp [pv]; omega
    go_enter Tryz.func48, Tryz.ntmps48
    go_wp2
    go_ret
    exact ⟨retb hpv.symm, (by repeat (first | exact Below.refl _ _ | assumption | refine Below.alloc ?_ (by simp <;> omega) _ | refine Below.setCell ?_ (by simp <;> omega) _ | refine Below.drew ?_))⟩
  · have hd : decide ((40 : Int) < (l.length : Int)) = false := by simp; omega
    go_enter Tryz.func48, Tryz.ntmps48
    go_wp2
    go_loopw [13] (fun i wr => ∃ k : Nat, k ≤ l.length ∧ i = .int .i64 k ∧ Hid (∀ j x, j < k → l[j]? = some x → cvOk x = true) ∧ Below w.heap.size w wr) (fun i _ => l.length - (intOf i).toNat)
    case atStart => exact ⟨0, Nat.zero_le _, rfl, fun j x hj => by omega, Below.refl _ _⟩
    case round =>
      obtain ⟨k, hk, rfl, HP, hb⟩ := hrel
      by_cases hlt : k < l.length
      · obtain ⟨b, off, x, rfl, hbB, hx, c0, c1, c2, c3⟩ := (hA.below hb).at_ hlt
        have HX := Lib.hid hx
        clear hx
        have hsz := hb.size
        go_wp2_with fail
        refine (iCodeValid_c x _).mono ?_
        rintro e w1 ⟨rfl, hb1⟩
        have hbw : Below w.heap.size w w1 := by first | exact below_trans hb (Nat.le_refl _) hb1 | exact below_trans (hb.alloc hb.size _) (Nat.le_refl _) hb1
        clear c0 c1 c2 c3
        cases hv : cvOk x with
        | false =>
          go_wp2
          go_ret
          exact ⟨retb (by simp [pv, pvRun_bad l [] k x HX.out hv]), hbw⟩
        | true =>
          have HV := Lib.hid hv
          clear hv
          go_wp2
          go_roundw
          case rel =>
            refine ⟨k + 1, by omega, by go_num, fun j y hj hy => ?_, hbw⟩
            by_cases e : j = k
            · subst e
              rw [HX.out] at hy
              injection hy with hy
              subst hy
              exact HV.out
            · exact HP.out j y (by omega) hy
          case measure => simp [intOf]; omega
      · have hv : ∀ x, x ∈ l → cvOk x = true := fun x hx => by
          obtain ⟨j, hj, rfl⟩ := List.mem_iff_getElem.1 hx
          exact HP.out j _ (by omega) (List.getElem?_eq_getElem hj)
        have HV := Lib.hid hv
        clear hv
        go_wp2_with fail
        refine (blocks_c A c l wr ((hA.below hb).more hb.size) (by omega) HV.out).mono ?_
        rintro e w1 ⟨hb1, hcase⟩
        rcases hcase with ⟨hp, rfl, _⟩ | ⟨hp, v1, v2, rfl⟩
        · have hpv : pv l = true := pv_iff.2 ⟨by omega, hp⟩
          clear hp
          go_wp2
          go_ret
          exact ⟨retb hpv.symm, below_trans hb (Nat.le_refl _) hb1⟩
        · have hpv : pv l = false := by
            cases h : pv l with
            | false => rfl
            | true => exact absurd (pv_iff.1 h).2 hp
          clear hp
          go_wp2
          go_ret
          exact ⟨retb hpv.symm, below_trans hb (Nat.le_refl _) hb1⟩


def natsI (xs : List Nat) : List Int := xs.map fun (k : Nat) => (k : Int)
def LOfRel (w : World) (m : Nat) (lv kv : Value) (wr : World) : Prop :=
  ∃ (k : Nat) (A : Option Addr) (c : Nat), k ≤ 8 ∧ kv = .int .i64 k ∧ lv = .slice A (lanesTo m k).length c ∧ OI wr w.heap.size A (lanesTo m k).length c (natsI (lanesTo m k)) ∧ Below w.heap.size w wr

theorem bit_one (m k : Nat) : (((((m >>> k) % 2 : Nat) : Int)) == 1) = m.testBit k := by
  have h2 : m.testBit k = decide ((m >>> k) % 2 = 1) := by
    have : (m >>> k).testBit 0 = m.testBit k := by rw [Nat.testBit_shiftRight]; simp
    rw [← this, Nat.testBit_zero]
  rw [h2]
  generalize m >>> k = q
  cases h : decide (q % 2 = 1) with
  | true => rw [beq_iff_eq]; have := of_decide_eq_true h; omega
  | false => rw [beq_eq_false_iff_ne]; have := of_decide_eq_false h; omega

set_option maxRecDepth 100000 in
set_option maxHeartbeats 1000000 in
theorem lanesOf_c (m : Nat) (w : World) (hm : m < 65536) :
    Calls Tryz.prog 93 #[.int .i64 m] w (fun e w' => ∃ A c, e = .returned (.slice A (lanesOf m).length c) ∧ OI w' w.heap.size A (lanesOf m).length c (lanesI m) ∧ Below w.heap.size w w') := by
  go_enter Tryz.func93, Tryz.ntmps93
  go_wp2
  go_loopw [3, 5] (fun lv kv wr => LOfRel w m lv kv wr) (fun _ kv _ => 8 - (intOf kv).toNat)
  case atStart => exact ⟨0, none, 0, Nat.zero_le _, rfl, rfl, OI.nil_ _ _, Below.refl _ _⟩
  case round =>
    obtain ⟨k, A, c, hk, rfl, rfl, ho, hb⟩ := hrel
    have hs := hb.size
    by_cases hlt : k < 8
    · have hba := bit_and m k hm
      have hb1 := bit_one m k
      generalize ((((m >>> k) % 2 : Nat)) : Int) = qb at hba hb1
      have hll := lanesTo_len m k
      have HL := Lib.hid (lanesTo_succ m k)
      have HO := Lib.hid (ho.alloc (.cells #[.int .i64 k] 3))
      cases hbit : m.testBit k with
      | true =>
        rw [hbit] at hb1
        have HB := Lib.hid (show lanesTo m (k + 1) = lanesTo m k ++ [k] by rw [HL.out, hbit]; rfl)
        have hlen : (lanesTo m (k + 1)).length = (lanesTo m k).length + 1 := by rw [HB.out]; simp
        clear hbit
        go_wp2_with (at_builtin; refine app_int rfl _ _ rfl w.heap.size A _ c _ HO.out rfl k wr.heap.size 1 rfl ?hc ?hn ?hb ?_)
        case hc => simp [go_sem]
        case hn => omega
        case hb => simp; omega
        intro A' c' w2 ho2 hg2
        have hb2 := below_app hb hs ho (Nat.le_refl _) hg2
        go_wp2
        go_roundw
        case rel => exact ⟨k + 1, A', c', by omega, by go_num, by rw [hlen], by rw [hlen]; unfold natsI at *; rw [HB.out, List.map_append]; exact ho2, hb2⟩
        case measure => simp [intOf]; omega
      | false =>
        rw [hbit] at hb1
        have HB := Lib.hid (show lanesTo m (k + 1) = lanesTo m k by rw [HL.out, hbit]; rfl)
        clear hbit
        go_wp2
        go_roundw
        case rel => exact ⟨k + 1, A, c, by omega, by go_num, by rw [HB.out], by rw [HB.out]; exact ho, hb⟩
        case measure => simp [intOf]; omega
    · obtain rfl : k = 8 := by omega
      go_wp2
      go_ret
      exact ⟨A, c, rfl, ho, hb⟩

def beatsV (bs : List (Nat × Nat)) : List Value := bs.flatMap fun q => [.int .i64 q.1, .int .i64 q.2]
theorem beatsV_append (a b : List (Nat × Nat)) : beatsV (a ++ b) = beatsV a ++ beatsV b := by simp [beatsV]
def accsV (qs : List Acc) : List Value := qs.flatMap fun q => [.int .i64 q.who, .int .i64 q.cell, .bool q.wr, .int .i64 q.ph]
theorem accsV_append (a b : List Acc) : accsV (a ++ b) = accsV a ++ accsV b := by simp [accsV]
def regRows (rk : Nat → Nat) (n : Nat) : List Value := (List.range n).map fun k => .slice (some ⟨rk k, 0, none⟩) 4 4
theorem regRows_get (rk : Nat → Nat) (n k : Nat) (h : k < n) : (regRows rk n)[k]? = some (.slice (some ⟨rk k, 0, none⟩) 4 4) := by simp [regRows, h]

/-- A machine: a program with its blocks. -/
structure MK (w : World) (B mg : Nat) (A : Option Addr) (ca : Nat) (l : List Cd) (ob : Nat) (ga : Nat → Nat) : Prop where
  blk : w.heap[mg]? = some (.cells #[.slice A l.length ca, .slice (some ⟨ob, 0, none⟩) l.length l.length] 113 (0, 0))
  gB : B ≤ mg
  own : OR w B 139 1 (some ⟨ob, 0, none⟩) l.length l.length (ownRow l ga l.length)
  bks : ∀ p, p < l.length → opB (cdAt l p) = true → B ≤ ga p ∧ w.heap[ga p]? = some (.cells #[.int .i64 p, .int .i64 (endOf l p).2, .int .i64 (endOf l p).1] 141 (0, 0))
  lst : RdC w B A l

section
variable {w w' : World} {B mg : Nat} {A : Option Addr} {ca : Nat} {l : List Cd} {ob : Nat} {ga : Nat → Nat}
theorem MK.keep (h : MK w B mg A ca l ob ga) (hb : Below B w w') (h1 : ∀ (k : Nat) (cs : Array Value), w.heap[k]? = some (.cells cs 113 (0, 0)) → w'.heap[k]? = some (.cells cs 113 (0, 0)))
    (h2 : ∀ (k : Nat) (cs : Array Value), w.heap[k]? = some (.cells cs 139 (0, 0)) → w'.heap[k]? = some (.cells cs 139 (0, 0)))
    (h3 : ∀ (k : Nat) (cs : Array Value), w.heap[k]? = some (.cells cs 141 (0, 0)) → w'.heap[k]? = some (.cells cs 141 (0, 0))) : MK w' B mg A ca l ob ga :=
  ⟨h1 _ _ h.blk, h.gB, h.own.byType h2, fun p hp ho => ⟨(h.bks p hp ho).1, h3 _ _ (h.bks p hp ho).2⟩, h.lst.below hb⟩
theorem MK.ext (h : MK w B mg A ca l ob ga) (hx : Ext w w') (hB : B ≤ w.heap.size) : MK w' B mg A ca l ob ga :=
  h.keep ((hx.below).mono hB) (fun _ _ hk => hx.heap_ hk) (fun _ _ hk => hx.heap_ hk) (fun _ _ hk => hx.heap_ hk)
theorem MK.cells (h : MK w B mg A ca l ob ga) : w.cell? ⟨mg, 0, none⟩ = some (.slice A l.length ca) ∧ w.cell? ⟨mg, 1, none⟩ = some (.slice (some ⟨ob, 0, none⟩) l.length l.length) := by
  constructor <;> (rw [cell_of_heap h.blk]; rfl)
theorem MK.glt (h : MK w B mg A ca l ob ga) : mg < w.heap.size := lt_of_block h.blk
/-- The block of an instruction that opens one. -/
theorem MK.own_open (h : MK w B mg A ca l ob ga) {p : Nat} (hp : p < l.length) (ho : opB (cdAt l p) = true) :
    w.cell? ⟨ob, p, none⟩ = some (.pointer (some ⟨ga p, 0, none⟩)) ∧ w.cell? ⟨ga p, 0, none⟩ = some (.int .i64 p) ∧ w.cell? ⟨ga p, 1, none⟩ = some (.int .i64 (endOf l p).2) ∧ w.cell? ⟨ga p, 2, none⟩ = some (.int .i64 (endOf l p).1) := by
  refine ⟨(OR.at0 h.own).1 p _ ?_, ?_, ?_, ?_⟩
  · rw [ownRow_get _ _ _ _ hp, if_pos hp]
    simp [ownV, ownP, ho, ptrV]
  all_goals (rw [cell_of_heap (h.bks p hp ho).2]; rfl)
end

/-- Where the parts of a run lie. -/
structure IW where
  B : Nat
  g : Nat
  mg : Nat
  A : Option Addr
  ca : Nat
  l : List Cd
  ob : Nat
  ga : Nat → Nat
  n : Nat
  rg : Nat
  rc : Nat
  rk : Nat → Nat
  mb : Nat
  mc : Nat

def IW.row (z : IW) (s : LS) (T : Option Addr) (tc : Nat) (U : Option Addr) (uc : Nat) : Array Value :=
  #[.pointer (some ⟨z.mg, 0, none⟩), .slice (some ⟨z.rg, 0, none⟩) z.n z.rc, .slice (some ⟨z.mb, 0, none⟩) s.mem.length z.mc, .slice T s.beats.length tc, .slice U s.accs.length uc, .int .i64 s.phase, .nilFunc]

structure IR (w : World) (z : IW) (T : Option Addr) (tc : Nat) (U : Option Addr) (uc : Nat) (s : LS) : Prop where
  blk : w.heap[z.g]? = some (.cells (z.row s T tc U uc) 98 (0, 0))
  gB : z.B ≤ z.g
  mach : MK w z.B z.mg z.A z.ca z.l z.ob z.ga
  out : OR w z.B 24 1 (some ⟨z.rg, 0, none⟩) z.n z.rc (regRows z.rk z.n)
  inn : ∀ k, k < z.n → OI w z.B (some ⟨z.rk k, 0, none⟩) 4 4 (s.regs.getD k [])
  mem : OI w z.B (some ⟨z.mb, 0, none⟩) s.mem.length z.mc s.mem
  trc : OR w z.B 78 2 T s.beats.length tc (beatsV s.beats)
  acc : OR w z.B 130 4 U s.accs.length uc (accsV s.accs)
  inj : ∀ j k, j < z.n → k < z.n → z.rk j = z.rk k → j = k
  mne : ∀ k, k < z.n → z.rk k ≠ z.mb

/-- Nothing below B is turned, and no block but those of a run's own types. -/
structure StI (B : Nat) (w w' : World) : Prop where
  bel : Below B w w'
  kp : ∀ (k : Nat) (cs : Array Value) (t : TypeId), t ≠ 98 → t ≠ 3 → t ≠ 78 → t ≠ 130 → w.heap[k]? = some (.cells cs t (0, 0)) → w'.heap[k]? = some (.cells cs t (0, 0))
theorem StI.refl (B : Nat) (w : World) : StI B w w := ⟨Below.refl _ _, fun _ _ _ _ _ _ _ h => h⟩
theorem StI.trans {B : Nat} {a b c : World} (h : StI B a b) (k : StI B b c) : StI B a c := ⟨h.bel.trans k.bel, fun i cs t h1 h2 h3 h4 hi => k.kp i cs t h1 h2 h3 h4 (h.kp i cs t h1 h2 h3 h4 hi)⟩
theorem StI.of_ext {B : Nat} {w w' : World} (h : Ext w w') (hB : B ≤ w.heap.size) : StI B w w' := ⟨h.below.mono hB, fun _ _ _ _ _ _ _ hk => h.heap_ hk⟩
theorem StI.of_below {B : Nat} {w w' : World} (h : Below w.heap.size w w') (hB : B ≤ w.heap.size) : StI B w w' := StI.of_ext (Ext.of_below h) hB
theorem StI.size {B : Nat} {w w' : World} (h : StI B w w') : w.heap.size ≤ w'.heap.size := h.bel.size
theorem StI.code {B : Nat} {w w' : World} (h : StI B w w') {k : Nat} {cs : Array Value} (hk : w.heap[k]? = some (.cells cs 76 (0, 0))) : w'.heap[k]? = some (.cells cs 76 (0, 0)) :=
  h.kp k cs _ (by decide) (by decide) (by decide) (by decide) hk

section
variable {w w' : World} {z : IW} {T U : Option Addr} {tc uc : Nat} {s : LS}
theorem MK.sti {B mg : Nat} {A : Option Addr} {ca : Nat} {l : List Cd} {ob : Nat} {ga : Nat → Nat} (h : MK w B mg A ca l ob ga) (hs : StI B w w') : MK w' B mg A ca l ob ga :=
  h.keep hs.bel (fun k cs hk => hs.kp k cs _ (by decide) (by decide) (by decide) (by decide) hk) (fun k cs hk => hs.kp k cs _ (by decide) (by decide) (by decide) (by decide) hk) (fun k cs hk => hs.kp k cs _ (by decide) (by decide) (by decide) (by decide) hk)
theorem IR.ext (h : IR w z T tc U uc s) (hx : Ext w w') (hB : z.B ≤ w.heap.size) : IR w' z T tc U uc s :=
  ⟨hx.heap_ h.blk, h.gB, h.mach.ext hx hB, h.out.ext hx, fun k hk => OR.ext (h.inn k hk) hx, OR.ext h.mem hx, h.trc.ext hx, h.acc.ext hx, h.inj, h.mne⟩
theorem IR.cells (h : IR w z T tc U uc s) : w.cell? ⟨z.g, 0, none⟩ = some (.pointer (some ⟨z.mg, 0, none⟩)) ∧ w.cell? ⟨z.g, 1, none⟩ = some (.slice (some ⟨z.rg, 0, none⟩) z.n z.rc) ∧
    w.cell? ⟨z.g, 2, none⟩ = some (.slice (some ⟨z.mb, 0, none⟩) s.mem.length z.mc) ∧ w.cell? ⟨z.g, 3, none⟩ = some (.slice T s.beats.length tc) ∧
    w.cell? ⟨z.g, 4, none⟩ = some (.slice U s.accs.length uc) ∧ w.cell? ⟨z.g, 5, none⟩ = some (.int .i64 s.phase) ∧ w.cell? ⟨z.g, 6, none⟩ = some .nilFunc := by
  refine ⟨?_, ?_, ?_, ?_, ?_, ?_, ?_⟩ <;> (rw [cell_of_heap h.blk]; rfl)
theorem IR.rowAt (h : IR w z T tc U uc s) {k : Nat} (hk : k < z.n) : w.cell? ⟨z.rg, k, none⟩ = some (.slice (some ⟨z.rk k, 0, none⟩) 4 4) :=
  (OR.at0 h.out).1 k _ (regRows_get _ _ _ hk)
theorem IR.glt (h : IR w z T tc U uc s) : z.g < w.heap.size := lt_of_block h.blk
theorem IR.free (h : IR w z T tc U uc s) (j : Nat) : w.frozen? ⟨z.g, j, none⟩ = false := free_of_heap h.blk j
theorem IR.t_g (h : IR w z T tc U uc s) : Value.ownBlock (.slice T s.beats.length tc) ≠ some z.g := own_ne h.trc h.blk (by decide)
theorem IR.u_g (h : IR w z T tc U uc s) : Value.ownBlock (.slice U s.accs.length uc) ≠ some z.g := own_ne h.acc h.blk (by decide)

/-- An append to one row, and a store of its slice: rows of other types are kept. -/
theorem OR.app_set {wb w2 : World} {base e size n c : Nat} {A : Option Addr} {xs : List Value} {base' eT sT nT tT : Nat} {AT : Option Addr} {ts : List Value} (h : OR wb base e size A n c xs) (hT : OR wb base' eT sT AT nT tT ts)
    (hne : eT ≠ e) (hg : wb.grownBy w2 (Value.ownBlock (.slice AT nT tT))) {g : Nat} {cg : Array Value} {tg : TypeId} (hblk : w2.heap[g]? = some (.cells cg tg (0, 0))) (hneg : e ≠ tg) (j : Nat) (v : Value) :
    OR (w2.setCell ⟨g, j, none⟩ v) base e size A n c xs := by
  refine h.byType fun b cs hb => ?_
  have h2 := (hg.block b (lt_of_block hb) (fun e' => own_ne hT hb hne e'.symm)).trans hb
  rw [heap_set_other (type_ne h2 hblk hneg)]
  exact h2
theorem heap_app_set {wb w2 : World} {base' eT sT nT tT : Nat} {AT : Option Addr} {ts : List Value} (hT : OR wb base' eT sT AT nT tT ts) (hg : wb.grownBy w2 (Value.ownBlock (.slice AT nT tT)))
    {g : Nat} {cg : Array Value} {tg : TypeId} (hblk : w2.heap[g]? = some (.cells cg tg (0, 0))) (j : Nat) (v : Value) {b : Nat} {cs : Array Value} {t : TypeId} (hb : wb.heap[b]? = some (.cells cs t (0, 0))) (hne : eT ≠ t) (hneg : t ≠ tg) :
    (w2.setCell ⟨g, j, none⟩ v).heap[b]? = some (.cells cs t (0, 0)) := by
  have h2 := (hg.block b (lt_of_block hb) (fun e' => own_ne hT hb hne e'.symm)).trans hb
  rw [heap_set_other (type_ne h2 hblk hneg)]
  exact h2

/-- One instruction of lane k (its access has been noted before). -/
theorem IR.simp (h : IR w z T tc U uc s) {x : Cd} {k mn : Nat} (hk : k < z.n) (hok : SOk z.n s) (hmn : mn = s.mem.length) (hB : z.B ≤ w.heap.size) {r : List Int} (hr : r = s.regs.getD k [])
    (hs : Simp1 w z.B (z.rk k) 4 z.mb mn z.mc x k r s.mem w') : IR w' z T tc U uc { s with regs := s.regs.set k (simp1 x k (s.regs.getD k []) s.mem).1, mem := (simp1 x k (s.regs.getD k []) s.mem).2 } ∧ StI z.B w w' := by
  subst hmn hr
  obtain ⟨h1, h2, h3⟩ := hs
  obtain ⟨cur, hc⟩ := OR.heap_ (h.inn k hk)
  obtain ⟨cum, hcm⟩ := OR.heap_ h.mem
  have hl := simp1_len x k (s.regs.getD k []) s.mem
  have hkl : k < s.regs.length := by rw [hok.len]; exact hk
  have hb : Below z.B w w' := h3.below (OR.block (h.inn k hk) _ rfl).1 (OR.block h.mem _ rfl).1 hB
  have kt : ∀ (b : Nat) (cs : Array Value) (t : TypeId), t ≠ 3 → w.heap[b]? = some (.cells cs t (0, 0)) → w'.heap[b]? = some (.cells cs t (0, 0)) :=
    fun b cs t ht hi => (h3.block b (lt_of_block hi) (type_ne hi hc ht) (type_ne hi hcm ht)).trans hi
  have hst : StI z.B w w' := ⟨hb, fun i cs t _ ht _ _ hi => kt i cs t ht hi⟩
  refine ⟨⟨?_, h.gB, h.mach.sti hst, h.out.byType fun b cs hi => kt b cs _ (by decide) hi, ?_, ?_, h.trc.byType fun b cs hi => kt b cs _ (by decide) hi, h.acc.byType fun b cs hi => kt b cs _ (by decide) hi, h.inj, h.mne⟩, hst⟩
  · rw [kt _ _ _ (by decide) h.blk]
    simp only [IW.row, hl.2]
  · intro j hj
    by_cases e : j = k
    · subst e
      have : (s.regs.set j (simp1 x j (s.regs.getD j []) s.mem).1).getD j [] = (simp1 x j (s.regs.getD j []) s.mem).1 := by
        simp [List.getD_eq_getElem?_getD, hkl]
      rw [this]
      exact h1
    · have : (s.regs.set k (simp1 x k (s.regs.getD k []) s.mem).1).getD j [] = s.regs.getD j [] := by
        simp [List.getD_eq_getElem?_getD, List.getElem?_set_ne (fun h => e h.symm)]
      rw [this]
      refine OR.off (h.inn j hj) h3 ?_ ?_
      · intro e2; exact e (h.inj j k hj hk (by injection e2))
      · intro e2; exact h.mne j hj (by injection e2)
  · show OI w' z.B _ (simp1 x k (s.regs.getD k []) s.mem).2.length _ _
    rw [hl.2]
    exact h2

/-- A store into cell 3, behind an append to the steps. -/
theorem IR.beat_ {wb w2 : World} (h : IR w z T tc U uc s) (hX : Ext w wb) (hB : z.B ≤ w.heap.size) {p m : Nat} {T' : Option Addr} {tc' : Nat} (hg : wb.grownBy w2 (Value.ownBlock (.slice T s.beats.length tc)))
    (ho : OR w2 z.B 78 2 T' (s.beats.length + 1) tc' (beatsV s.beats ++ [.int .i64 p, .int .i64 m])) :
    IR (w2.setCell ⟨z.g, 3, none⟩ (.slice T' (s.beats.length + 1) tc')) z T' tc' U uc (beat p m s) ∧ StI z.B w (w2.setCell ⟨z.g, 3, none⟩ (.slice T' (s.beats.length + 1) tc')) := by
  have hwb := h.ext hX hB
  have kp : ∀ k, k < wb.heap.size → Value.ownBlock (.slice T s.beats.length tc) ≠ some k → w2.heap[k]? = wb.heap[k]? := fun k hk hne => hg.block k hk (fun e => hne e.symm)
  have hblk : w2.heap[z.g]? = some (.cells (z.row s T tc U uc) 98 (0, 0)) := (kp _ hwb.glt hwb.t_g).trans hwb.blk
  have hbl : (beat p m s).beats.length = s.beats.length + 1 := by simp [beat]
  have hlst : Below z.B wb w2 := ⟨hg.os, hg.tape, hg.output, hg.size, fun k hk => kp k (by have := hX.size; omega) (fun e => by have := (OR.block hwb.trc k e).1; omega)⟩
  have hb2 : Below z.B w (w2.setCell ⟨z.g, 3, none⟩ (.slice T' (s.beats.length + 1) tc')) := (((hX.below).mono hB).trans hlst).setCell h.gB _
  have hst : StI z.B w (w2.setCell ⟨z.g, 3, none⟩ (.slice T' (s.beats.length + 1) tc')) := ⟨hb2, fun i cs t h1 _ h3 _ hi => heap_app_set hwb.trc hg hblk 3 _ (hX.heap_ hi) (Ne.symm h3) h1⟩
  refine ⟨⟨?_, h.gB, h.mach.sti hst, hwb.out.app_set hwb.trc (by decide) hg hblk (by decide) 3 _, fun k hk => OR.app_set (hwb.inn k hk) hwb.trc (by decide) hg hblk (by decide) 3 _, OR.app_set hwb.mem hwb.trc (by decide) hg hblk (by decide) 3 _, ?_, hwb.acc.app_set hwb.trc (by decide) hg hblk (by decide) 3 _, h.inj, h.mne⟩, hst⟩
  · rw [heap_set_same hblk]
    simp [IW.row, hbl]
    exact ⟨rfl, rfl, rfl⟩
  · rw [hbl]
    have e : beatsV (beat p m s).beats = beatsV s.beats ++ [.int .i64 p, .int .i64 m] := by
      show beatsV (s.beats ++ [(p, m)]) = _
      rw [beatsV_append]; rfl
    rw [e]
    exact OR.set_other ho (p := ⟨z.g, 3, none⟩) (own_ne ho hblk (by decide)) _

def addAcc (q : Acc) (s : LS) : LS := { s with accs := s.accs ++ [q] }
/-- A store into cell 4, behind an append to the accesses. -/
theorem IR.acc_ {wb w2 : World} (h : IR w z T tc U uc s) (hX : Ext w wb) (hB : z.B ≤ w.heap.size) {q : Acc} {U' : Option Addr} {uc' : Nat} (hg : wb.grownBy w2 (Value.ownBlock (.slice U s.accs.length uc)))
    (ho : OR w2 z.B 130 4 U' (s.accs.length + 1) uc' (accsV s.accs ++ [.int .i64 q.who, .int .i64 q.cell, .bool q.wr, .int .i64 q.ph])) :
    IR (w2.setCell ⟨z.g, 4, none⟩ (.slice U' (s.accs.length + 1) uc')) z T tc U' uc' (addAcc q s) ∧ StI z.B w (w2.setCell ⟨z.g, 4, none⟩ (.slice U' (s.accs.length + 1) uc')) := by
  have hwb := h.ext hX hB
  have kp : ∀ k, k < wb.heap.size → Value.ownBlock (.slice U s.accs.length uc) ≠ some k → w2.heap[k]? = wb.heap[k]? := fun k hk hne => hg.block k hk (fun e => hne e.symm)
  have hblk : w2.heap[z.g]? = some (.cells (z.row s T tc U uc) 98 (0, 0)) := (kp _ hwb.glt hwb.u_g).trans hwb.blk
  have hbl : (addAcc q s).accs.length = s.accs.length + 1 := by simp [addAcc]
  have hlst : Below z.B wb w2 := ⟨hg.os, hg.tape, hg.output, hg.size, fun k hk => kp k (by have := hX.size; omega) (fun e => by have := (OR.block hwb.acc k e).1; omega)⟩
  have hb2 : Below z.B w (w2.setCell ⟨z.g, 4, none⟩ (.slice U' (s.accs.length + 1) uc')) := (((hX.below).mono hB).trans hlst).setCell h.gB _
  have hst : StI z.B w (w2.setCell ⟨z.g, 4, none⟩ (.slice U' (s.accs.length + 1) uc')) := ⟨hb2, fun i cs t h1 _ _ h4 hi => heap_app_set hwb.acc hg hblk 4 _ (hX.heap_ hi) (Ne.symm h4) h1⟩
  refine ⟨⟨?_, h.gB, h.mach.sti hst, hwb.out.app_set hwb.acc (by decide) hg hblk (by decide) 4 _, fun k hk => OR.app_set (hwb.inn k hk) hwb.acc (by decide) hg hblk (by decide) 4 _, OR.app_set hwb.mem hwb.acc (by decide) hg hblk (by decide) 4 _, hwb.trc.app_set hwb.acc (by decide) hg hblk (by decide) 4 _, ?_, h.inj, h.mne⟩, hst⟩
  · rw [heap_set_same hblk]
    simp [IW.row, hbl]
    exact ⟨rfl, rfl, rfl⟩
  · rw [hbl]
    have e : accsV (addAcc q s).accs = accsV s.accs ++ [.int .i64 q.who, .int .i64 q.cell, .bool q.wr, .int .i64 q.ph] := by
      show accsV (s.accs ++ [q]) = _
      rw [accsV_append]; rfl
    rw [e]
    exact OR.set_other ho (p := ⟨z.g, 4, none⟩) (own_ne ho hblk (by decide)) _

/-- A store of the number of barriers. -/
theorem IR.pha (h : IR w z T tc U uc s) (hB : z.B ≤ w.heap.size) (k : Nat) : IR (w.setCell ⟨z.g, 5, none⟩ (.int .i64 k)) z T tc U uc { s with phase := k } ∧ StI z.B w (w.setCell ⟨z.g, 5, none⟩ (.int .i64 k)) := by
  have hb : Below z.B w (w.setCell ⟨z.g, 5, none⟩ (.int .i64 k)) := (Below.refl _ _).setCell h.gB _
  have og : ∀ {e size n c : Nat} {A : Option Addr} {xs : List Value}, OR w z.B e size A n c xs → e ≠ 98 → OR (w.setCell ⟨z.g, 5, none⟩ (.int .i64 k)) z.B e size A n c xs := fun ho hne => OR.set_other ho (p := ⟨z.g, 5, none⟩) (own_ne ho h.blk hne) _
  have hst : StI z.B w (w.setCell ⟨z.g, 5, none⟩ (.int .i64 k)) := ⟨hb, fun i cs t h1 _ _ _ hi => (heap_set_other (type_ne hi h.blk h1) _ _).trans hi⟩
  refine ⟨⟨?_, h.gB, h.mach.sti hst, og h.out (by decide), fun k hk => og (h.inn k hk) (by decide), og h.mem (by decide), og h.trc (by decide), og h.acc (by decide), h.inj, h.mne⟩, hst⟩
  rw [heap_set_same h.blk]
  rfl
end

theorem beatsV_get : ∀ (bs : List (Nat × Nat)) (k : Nat) (q : Nat × Nat), bs[k]? = some q → (beatsV bs)[k * 2]? = some (.int .i64 q.1) ∧ (beatsV bs)[k * 2 + 1]? = some (.int .i64 q.2)
  | [], k, q, h => by simp at h
  | p :: bs, 0, q, h => by
    simp at h
    subst h
    exact ⟨rfl, rfl⟩
  | p :: bs, k + 1, q, h => by
    have ih := beatsV_get bs k q (by simpa using h)
    have e : beatsV (p :: bs) = [.int .i64 p.1, .int .i64 p.2] ++ beatsV bs := rfl
    rw [e, show (k + 1) * 2 = 2 + k * 2 by omega, List.getElem?_append_right (by simp), List.getElem?_append_right (by simp; omega)]
    refine ⟨?_, ?_⟩
    · rw [← ih.1]; congr 1; simp
    · rw [← ih.2]; congr 1; simp; omega

def onesF (a : Int) (s : LS) (out k : Nat) : Nat := if s.reg k a == 0 then out else out ||| 2 ^ k
theorem onesF_of (m : Nat) (a : Int) (s : LS) : onesOf m a s = foldTo (onesF a s) m 0 (lanesOf m).length := (foldTo_all (onesF a s) m 0).symm
theorem onesF_lt (a : Int) (s : LS) (m : Nat) : ∀ j, foldTo (onesF a s) m 0 j < 256
  | 0 => by simp [foldTo]
  | j + 1 => by
    have ih := onesF_lt a s m j
    cases h : (lanesOf m)[j]? with
    | none =>
      have : (lanesOf m).length ≤ j := List.getElem?_eq_none_iff.1 h
      unfold foldTo at *
      rw [List.take_of_length_le (by omega)] at *
      exact ih
    | some k =>
      rw [foldTo_succ _ _ h]
      have hk := (lanesOf_mem.1 (List.mem_of_getElem? h)).1
      unfold onesF
      rw [show foldTo (fun out k => if (s.reg k a == 0) = true then out else out ||| 2 ^ k) m 0 j = foldTo (onesF a s) m 0 j from rfl]
      split
      · exact ih
      · exact Nat.or_lt_two_pow (n := 8) (by omega) (Nat.pow_lt_pow_right (by decide) hk)

set_option maxRecDepth 100000 in
theorem run_equalIn_func_nil {P : Program} (w : World) (d : Nat) (t : TypeId) {p r : Array TypeId} {v : Bool} (h : P.underlying t = some (.func p r v)) : (Op.equalIn (d + 1) t .nilFunc .nilFunc).run P w = .ok true w := by
  simp [Op.equalIn, run_underlying h]
set_option maxRecDepth 100000 in
theorem run_neq_func_nil {P : Program} (w : World) (t : TypeId) {p r : Array TypeId} {v : Bool} (h : P.underlying t = some (.func p r v)) : (binOp .neq t .nilFunc .nilFunc).run P w = .ok (.bool false) w := by
  simp only [binOp]
  simp [Op.equal, Op.maxDepth, run_equalIn_func_nil w 9999 t h]

def ActRel (w : World) (m : Nat) (a : Int) (s : LS) (ov jv : Value) (wr : World) : Prop :=
  ∃ j : Nat, j ≤ (lanesOf m).length ∧ jv = .int .i64 j ∧ ov = .int .i64 ((foldTo (onesF a s) m 0 j : Nat) : Int) ∧ Below w.heap.size w wr

set_option maxRecDepth 100000 in
set_option maxHeartbeats 2000000 in
theorem active_c {w : World} {z : IW} {T U : Option Addr} {tc uc : Nat} {s : LS} (h : IR w z T tc U uc s) (hok : SOk z.n s) (m : Nat) (hm : m < 2 ^ z.n) (a : Int) (ha : 0 ≤ a ∧ a ≤ 3) :
    Calls Tryz.prog 130 #[.pointer (some ⟨z.g, 0, none⟩), .int .i64 m, .int .i64 a] w fun e w' => e = .returned (.int .i64 (onesOf m a s)) ∧ Below w.heap.size w w' := by
  obtain ⟨a, rfl⟩ := Int.eq_ofNat_of_zero_le ha.1
  have a3 : a ≤ 3 := by omega
  have n8 := hok.n8
  have m256 : m < 2 ^ 8 := Nat.lt_of_lt_of_le hm (Nat.pow_le_pow_right (by decide) n8)
  have m256' : m < 256 := by omega
  have HL := Lib.hid (fun k => lanesOf_lt (k := k) hm)
  have h8 := lanesOf_len m
  clear hm m256
  go_enter Tryz.func130, Tryz.ntmps130
  go_wp2_with fail
  refine (lanesOf_c m w (by omega)).mono ?_
  rintro e w1 ⟨A, c, rfl, hO, hb1⟩
  have hI := h.ext (Ext.of_below hb1) (by have := h.gB; have := h.glt; omega)
  replace hO := hO.reads
  clear h
  go_wp2
  go_loopw [7, 13] (fun ov jv wr => ActRel w1 m a s ov jv wr) (fun _ jv _ => (lanesOf m).length - (intOf jv).toNat)
  case atStart => exact ⟨0, Nat.zero_le _, rfl, rfl, Below.refl _ _⟩
  case round =>
    obtain ⟨j, hj, rfl, rfl, hb⟩ := hrel
    by_cases hlt : j < (lanesOf m).length
    · have hk : (lanesOf m)[j]? = some ((lanesOf m)[j]) := List.getElem?_eq_getElem hlt
      generalize (lanesOf m)[j] = k at hk
      have hkn : k < z.n := HL.out k (List.mem_of_getElem? hk)
      obtain ⟨b, off, rfl, hbB, hc⟩ := hO.2 (by omega)
      have g1 := cell_kept hb (hc j (.int .i64 k) (by rw [List.getElem?_map, lanesI_get hk]; rfl))
      have hI2 := hI.ext (Ext.of_below hb) (by have := hI.gB; have := hI.glt; omega)
      obtain ⟨c0, c1, -, -, -, -, -⟩ := hI2.cells
      have hrow := hI2.rowAt hkn
      have hr4 := hok.get hkn
      have hreg := (OI.at0 (hI2.inn k hkn)).1 a _ (rg_get hr4.1 a3)
      have HT := Lib.hid (foldTo_succ (onesF (a : Int) s) 0 hk)
      have hu := onesF_lt (a : Int) s m j
      have HV : s.reg k (a : Int) = rg (s.regs.getD k []) (a : Int) := rfl
      have hk7 : k ≤ 7 := by omega
      have hjI : (j : Int) < ((lanesOf m).length : Int) := by omega
      have hkI : (k : Int) < (z.n : Int) := by omega
      have hpw : 2 ^ k ≤ 2 ^ 7 := Nat.pow_le_pow_right (by decide) (by omega)
      generalize foldTo (onesF (a : Int) s) m 0 j = u at *
      generalize rg (s.regs.getD k []) (a : Int) = v at hreg HV
      clear hk hc hr4 c0 hI2
      cases hz : v == 0 with
      | true =>
        have hn : (v != 0) = false := by simp [bne, hz]
        have HZ := Lib.hid (show foldTo (onesF (a : Int) s) m 0 (j + 1) = u by rw [HT.out]; simp only [onesF, HV, hz, if_true])
        clear hz HV HT
        go_wp2
        go_roundw
        case rel => exact ⟨j + 1, by omega, by go_num, by rw [HZ.out], hb⟩
        case measure => simp [intOf]; omega
      | false =>
        have hn : (v != 0) = true := by simp [bne, hz]
        have HZ := Lib.hid (show foldTo (onesF (a : Int) s) m 0 (j + 1) = u ||| 2 ^ k by rw [HT.out]; simp only [onesF, HV, hz]; rfl)
        clear hz HV HT
        go_wp2
        go_roundw
        case rel => exact ⟨j + 1, by omega, by go_num, by rw [HZ.out, or_bit _ _ (by omega) (by omega)], hb⟩
        case measure => simp [intOf]; omega
    · obtain rfl : j = (lanesOf m).length := by omega
      go_wp2
      go_ret
      exact ⟨reti (by rw [onesF_of]), below_trans hb1 (Nat.le_refl _) hb⟩

set_option maxRecDepth 100000 in
set_option maxHeartbeats 2000000 in
theorem beat_c {w : World} {z : IW} {T U : Option Addr} {tc uc : Nat} {s : LS} (h : IR w z T tc U uc s) (p m : Nat) (hp : p ≤ 1000000) (hm : m < 256) (hl : s.beats.length ≤ 1000000000) (hB : z.B ≤ w.heap.size) :
    Calls Tryz.prog 129 #[.pointer (some ⟨z.g, 0, none⟩), .int .i64 p, .int .i64 m] w fun e w' => e = .returned (.tuple #[]) ∧ ∃ T' tc', IR w' z T' tc' U uc (beat p m s) ∧ StI z.B w w' := by
  obtain ⟨c0, c1, c2, c3, c4, c5, c6⟩ := h.cells
  have HT := Lib.hid (h.trc.alloc (.cells #[.int .i64 p, .int .i64 m] 78))
  have H := Lib.hid h
  have hgl := h.glt
  clear h c0 c1 c2 c4 c5
  go_enter Tryz.func129, Tryz.ntmps129
  go_wp2_with (at_builtin; refine app_row 47 78 _ 2 16 Tryz.underlying47 infoBeat rfl (by decide) (by decide) rfl _ _ rfl z.B T s.beats.length tc _ HT.out rfl w.heap.size 1 1 [.int .i64 p, .int .i64 m] rfl rfl ?hc ?h1 ?hn ?hb ?_)
  case hc =>
    intro j u hu
    match j, hu with
    | 0, hu => simp at hu; subst hu; simp [go_sem]
    | 1, hu => simp at hu; subst hu; simp [go_sem]
  case h1 => intro u hu; simp at hu; rcases hu with rfl | rfl <;> rfl
  case hn => omega
  case hb => simp; omega
  intro T2 tc2 w2 ho2 hg2
  have hX := Ext.alloc w (.cells #[.int .i64 p, .int .i64 m] 78)
  obtain ⟨hR, hst⟩ := H.out.beat_ hX hB hg2 ho2
  have e1 := H.out.ext hX hB
  have hblk : w2.heap[z.g]? = some (.cells (z.row s T tc U uc) 98 (0, 0)) := (hg2.block _ e1.glt (fun e => e1.t_g e.symm)).trans e1.blk
  have q3 : w2.cell? ⟨z.g, 3, none⟩ = some (.slice T s.beats.length tc) := cell_of_heap hblk 3
  have q6 : w2.cell? ⟨z.g, 6, none⟩ = some .nilFunc := cell_of_heap hblk 6
  have f3 := free_of_heap hblk 3
  have HR := Lib.hid hR
  clear hR hX e1 hblk c3 c6
  have k1 := fun w' : World => run_neq_func_nil (P := Tryz.prog) w' 96 Tryz.underlying96
  go_wp2
  go_end0
  exact ⟨rfl, T2, tc2, HR.out, hst⟩

end Go.Proofs.YtelbfeidpcojmaaGreat
