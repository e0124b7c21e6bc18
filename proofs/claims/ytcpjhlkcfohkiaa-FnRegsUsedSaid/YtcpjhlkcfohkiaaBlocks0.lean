/- The program's table of blocks: what lies in memory. -/
import Derived.Test.YtcpjhlkcfohkiaaRet
import Derived.Test.YtcpjhlkcfohkiaaSyn
namespace Go.Proofs.Ytcpjhlkcfohkiaa
open Go.RowKit
set_option linter.unusedVariables false
set_option linter.unusedSimpArgs false

theorem infoBlkP : (Try.prog.info? 81).map (fun i => (i.zero, i.size, i.bytes)) = some (some (.pointer none), 1, 8) := by kernel_rfl
theorem infoBlkS : (Try.prog.info? 76).map (fun i => (i.zero, i.size, i.bytes)) = some (some (.slice none 0 0), 1, 24) := by kernel_rfl
theorem make_blkP (n : Nat) (hn : n ≤ 1000000000000) (w : World) :
    (Instr.makeSlice 76 (.int .i64 (n : Int)) (.int .i64 (n : Int))).run Try.prog w = .ok (.slice (some ⟨w.heap.size, 0, none⟩) n n) (w.alloc (.cells (zeroRow (.pointer none) n) 81)) := by
  obtain ⟨i0, hi, hz0, hz1, hz2⟩ := info_parts infoBlkP
  have := run_make_rowN (P := Try.prog) 76 81 i0 _ Try.underlying76 hi hz0 .i64 .i64 n n (Nat.le_refl _) (by rw [hz2]; omega) (by omega) w
  rw [hz1, Nat.mul_one] at this
  exact this
theorem make_blkS (n : Nat) (hn : n ≤ 1000000000000) (w : World) :
    (Instr.makeSlice 75 (.int .i64 (n : Int)) (.int .i64 (n : Int))).run Try.prog w = .ok (.slice (some ⟨w.heap.size, 0, none⟩) n n) (w.alloc (.cells (zeroRow (.slice none 0 0) n) 76)) := by
  obtain ⟨i0, hi, hz0, hz1, hz2⟩ := info_parts infoBlkS
  have := run_make_rowN (P := Try.prog) 75 76 i0 _ Try.underlying75 hi hz0 .i64 .i64 n n (Nat.le_refl _) (by rw [hz2]; omega) (by omega) w
  rw [hz1, Nat.mul_one] at this
  exact this

theorem scanA_lt (l : List Cd) : ∀ n d, scanA l n d < n
  | 0, d => by simp [scanA]
  | n + 1, d => by
    have h1 := scanA_lt l n d
    have h2 := scanA_lt l n (d + 1)
    unfold scanA
    split
    · omega
    · split
      · cases d with
        | zero => simp; omega
        | succ d => have := scanA_lt l n d; simp; omega
      · split <;> omega
theorem aroundN_le (l : List Cd) (k : Nat) : aroundN l k ≤ k := by
  have := scanA_lt l k 0
  unfold aroundN aroundOf
  omega

/-- The place whose block place j opens, divides or closes. -/
def ownP (l : List Cd) (j : Nat) : Option Nat :=
  if opB (cdAt l j) then some j else if (cdAt l j).op == 12 || (cdAt l j).op == 14 then some (aroundN l j) else none
theorem ownP_le {l : List Cd} {j p : Nat} (h : ownP l j = some p) : p ≤ j := by
  unfold ownP at h
  split at h
  · injection h with h; omega
  · split at h
    · injection h with h; have := aroundN_le l j; omega
    · cases h

def ptrV (ga : Nat → Nat) (p : Nat) : Value := .pointer (some ⟨ga p, 0, none⟩)
def ownV (l : List Cd) (ga : Nat → Nat) (j : Nat) : Value := match ownP l j with
  | some p => ptrV ga p
  | none => .pointer none
def ownRow (l : List Cd) (ga : Nat → Nat) (k : Nat) : List Value := (List.range l.length).map fun j => if j < k then ownV l ga j else .pointer none

theorem ownRow_length (l : List Cd) (ga : Nat → Nat) (k : Nat) : (ownRow l ga k).length = l.length := by simp [ownRow]
theorem ownRow_get (l : List Cd) (ga : Nat → Nat) (k j : Nat) (h : j < l.length) : (ownRow l ga k)[j]? = some (if j < k then ownV l ga j else .pointer none) := by
  simp [ownRow, h]
theorem ownRow_zero (l : List Cd) (ga : Nat → Nat) : ownRow l ga 0 = List.replicate l.length (.pointer none) := by
  apply List.ext_getElem?
  intro j
  by_cases h : j < l.length <;> simp [ownRow, h]
theorem ownRow_set {l : List Cd} {ga ga' : Nat → Nat} {k : Nat} (hk : k < l.length) (v : Value) (hv : v = ownV l ga' k) (hg : ∀ p, p < k → ga' p = ga p) : (ownRow l ga k).set k v = ownRow l ga' (k + 1) := by
  subst hv
  apply List.ext_getElem?
  intro j
  rw [List.getElem?_set, ownRow_length]
  by_cases hj : j < l.length
  · rw [ownRow_get l ga' _ _ hj]
    by_cases e : k = j
    · subst e
      rw [if_pos rfl, if_pos hj, if_pos (by omega)]
    · rw [if_neg e, ownRow_get l ga _ _ hj]
      by_cases h2 : j < k
      · rw [if_pos h2, if_pos (by omega)]
        congr 1
        unfold ownV
        split
        · rename_i p hp
          have := ownP_le hp
          simp only [ptrV, hg p (by omega)]
        · rfl
      · rw [if_neg h2, if_neg (by omega)]
  · rw [if_neg (by omega), List.getElem?_eq_none (by rw [ownRow_length]; omega), List.getElem?_eq_none (by rw [ownRow_length]; omega)]
theorem ownRow_same {l : List Cd} {ga : Nat → Nat} {k : Nat} (hk : k < l.length) (hv : ownV l ga k = .pointer none) : ownRow l ga k = ownRow l ga (k + 1) := by
  have := ownRow_set (ga := ga) hk _ hv.symm (fun _ _ => rfl)
  rw [← this]
  refine (List.ext_getElem? fun j => ?_)
  rw [List.getElem?_set, ownRow_length]
  by_cases e : k = j
  · subst e
    rw [if_pos rfl, if_pos hk, ownRow_get _ _ _ _ hk, if_neg (by omega)]
  · rw [if_neg e]

/-- The memory of the loop. -/
structure WInv (w : World) (l : List Cd) (k : Nat) (st : List Nat) (ga : Nat → Nat) (oth en : Nat → Int) (As : Option Addr) (cs : Nat) (wr : World) : Prop where
  arr : ∃ arv, OR wr w.heap.size 76 1 (some ⟨w.heap.size, 0, none⟩) l.length l.length arv
  own : OR wr w.heap.size 81 1 (some ⟨w.heap.size + 1, 0, none⟩) l.length l.length (ownRow l ga k)
  stk : OR wr (w.heap.size + 2) 81 1 As st.length cs (st.reverse.map (ptrV ga))
  blk : ∀ p, p < k → opB (cdAt l p) = true → w.heap.size + 2 ≤ ga p ∧ wr.heap[ga p]? = some (.cells #[.int .i64 p, .int .i64 (oth p), .int .i64 (en p)] 80 (0, 0))
  inj : ∀ p q, p < k → q < k → opB (cdAt l p) = true → opB (cdAt l q) = true → ga p = ga q → p = q
  bel : Below w.heap.size w wr
  siz : w.heap.size + 2 ≤ wr.heap.size

section
variable {w wr w' : World} {l : List Cd} {k : Nat} {st : List Nat} {ga : Nat → Nat} {oth en : Nat → Int} {As : Option Addr} {cs : Nat}
theorem WInv.ext (h : WInv w l k st ga oth en As cs wr) (hx : Ext wr w') : WInv w l k st ga oth en As cs w' := by
  obtain ⟨arv, ha⟩ := h.arr
  exact ⟨⟨arv, ha.ext hx⟩, h.own.ext hx, h.stk.ext hx, fun p hp ho => ⟨(h.blk p hp ho).1, hx.heap_ (h.blk p hp ho).2⟩, h.inj,
    h.bel.trans (hx.below.mono h.bel.size), Nat.le_trans h.siz hx.size⟩

theorem ownBlock_ne {g : Nat} (h : OR wr (w.heap.size + 2) 81 1 As st.length cs (st.reverse.map (ptrV ga))) (hg : g < w.heap.size + 2) : Value.ownBlock (.slice As st.length cs) ≠ some g := by
  intro e
  have := (h.block g e).1
  omega

theorem WInv.ga_ne_row (h : WInv w l k st ga oth en As cs wr) {p g : Nat} (hp : p < k) (ho : opB (cdAt l p) = true) (hg : ∃ cur, wr.heap[g]? = some (.cells cur 81 (0, 0))) : ga p ≠ g := by
  intro e
  obtain ⟨cur, hc⟩ := hg
  have h1 := (h.blk p hp ho).2
  rw [e, hc] at h1
  injection h1 with h1
  injection h1 with _ h2
  exact absurd h2 (by decide)

/-- Around row: a store at place j. -/
theorem WInv.set_arr (h : WInv w l k st ga oth en As cs wr) (j : Nat) (u : Value) : WInv w l k st ga oth en As cs (wr.setCell ⟨w.heap.size, j, none⟩ u) := by
  obtain ⟨arv, ha⟩ := h.arr
  refine ⟨⟨_, ha.at0.2.2 j u⟩, ?_, ?_, fun p hp ho => ?_, h.inj, h.bel.setCell (Nat.le_refl _) u, by rw [size_set]; exact h.siz⟩
  · exact h.own.set_other (by simp [Value.ownBlock]) u
  · exact h.stk.set_other (ownBlock_ne h.stk (by simp)) u
  · have hb := h.blk p hp ho
    exact ⟨hb.1, by rw [heap_set_other (by omega)]; exact hb.2⟩

/-- A store of a pointer into the row 'own'. -/
theorem WInv.set_own (h : WInv w l k st ga oth en As cs wr) (u : Value) : (OR (wr.setCell ⟨w.heap.size + 1, k, none⟩ u) w.heap.size 81 1 (some ⟨w.heap.size + 1, 0, none⟩) l.length l.length ((ownRow l ga k).set k u)) ∧
    (∃ arv, OR (wr.setCell ⟨w.heap.size + 1, k, none⟩ u) w.heap.size 76 1 (some ⟨w.heap.size, 0, none⟩) l.length l.length arv) ∧
    OR (wr.setCell ⟨w.heap.size + 1, k, none⟩ u) (w.heap.size + 2) 81 1 As st.length cs (st.reverse.map (ptrV ga)) ∧
    (∀ p, p < k → opB (cdAt l p) = true → w.heap.size + 2 ≤ ga p ∧ (wr.setCell ⟨w.heap.size + 1, k, none⟩ u).heap[ga p]? = some (.cells #[.int .i64 p, .int .i64 (oth p), .int .i64 (en p)] 80 (0, 0))) := by
  obtain ⟨arv, ha⟩ := h.arr
  refine ⟨h.own.at0.2.2 k u, ⟨arv, ha.set_other (by simp [Value.ownBlock]) u⟩, h.stk.set_other (ownBlock_ne h.stk (by simp)) u, fun p hp ho => ?_⟩
  have hb := h.blk p hp ho
  exact ⟨hb.1, by rw [heap_set_other (by omega)]; exact hb.2⟩

def updN (s : Nat → Nat) (k v : Nat) : Nat → Nat := fun j => if j = k then v else s j

/-- A pointer block is no block of the stack's row. -/
theorem WInv.ga_ne_stk (h : WInv w l k st ga oth en As cs wr) {p : Nat} (hp : p < k) (ho : opB (cdAt l p) = true) : some (ga p) ≠ Value.ownBlock (.slice As st.length cs) := by
  intro e
  cases As with
  | none => simp [Value.ownBlock] at e
  | some a =>
    have e' : a.block = ga p := by simp [Value.ownBlock] at e; exact e.symm
    rcases h.stk.2 with ⟨hv, _⟩ | ⟨g, cap, cur, hv, _, hg, _⟩
    · cases hv
    · injection hv with hA _ _
      injection hA with hA
      subst hA
      exact h.ga_ne_row hp ho ⟨cur, hg⟩ e'.symm

/-- A new block at place k: stored into 'own', appended to the stack. -/
theorem WInv.push (h : WInv w l k st ga oth en As cs wr) (hlt : ∀ p, p ∈ st → p < k) (hk : k < l.length) (ho : opB (cdAt l k) = true) {A2 : Option Addr} {c2 : Nat} {w6 : World}
    (h6 : OR w6 (w.heap.size + 2) 81 1 A2 (st.length + 1) c2 (st.reverse.map (ptrV ga) ++ [.pointer (some ⟨wr.heap.size, 0, none⟩)]))
    (hg : (((wr.setCell ⟨w.heap.size + 1, k, none⟩ (.pointer (some ⟨wr.heap.size, 0, none⟩))).alloc (.cells #[.int .i64 k, .int .i64 (-1), .int .i64 (-1)] 80)).alloc (.cells #[.pointer (some ⟨wr.heap.size, 0, none⟩)] 81)).grownBy w6 (Value.ownBlock (.slice As st.length cs))) :
    WInv w l (k + 1) (k :: st) (updN ga k wr.heap.size) (updI oth k (-1)) (updI en k (-1)) A2 c2 w6 := by
  have hsz := h.siz
  have h1 := h
  obtain ⟨o1, ⟨arv, a1⟩, s1, b1⟩ := h1.set_own (.pointer (some ⟨wr.heap.size, 0, none⟩))
  have hbel := h1.bel.setCell (p := ⟨w.heap.size + 1, k, none⟩) (Nat.le_succ _) (.pointer (some ⟨wr.heap.size, 0, none⟩))
  have hs2 : (wr.setCell ⟨w.heap.size + 1, k, none⟩ (.pointer (some ⟨wr.heap.size, 0, none⟩))).heap.size = wr.heap.size := by rw [size_set]
  generalize wr.setCell ⟨w.heap.size + 1, k, none⟩ (.pointer (some ⟨wr.heap.size, 0, none⟩)) = w2 at *
  have hnew : (w2.alloc (.cells #[.int .i64 k, .int .i64 (-1), .int .i64 (-1)] 80)).heap[wr.heap.size]? = some (.cells #[.int .i64 k, .int .i64 (-1), .int .i64 (-1)] 80 (0, 0)) := by
    have := heap_alloc_new w2 (.cells #[.int .i64 k, .int .i64 (-1), .int .i64 (-1)] 80)
    rwa [hs2] at this
  have hX0 := Ext.alloc w2 (.cells #[.int .i64 k, .int .i64 (-1), .int .i64 (-1)] 80)
  have hs3 : (w2.alloc (.cells #[.int .i64 k, .int .i64 (-1), .int .i64 (-1)] 80)).heap.size = wr.heap.size + 1 := by simp [hs2]
  have hX1 := Ext.alloc (w2.alloc (.cells #[.int .i64 k, .int .i64 (-1), .int .i64 (-1)] 80)) (.cells #[.pointer (some ⟨wr.heap.size, 0, none⟩)] 81)
  have hX := hX0.trans hX1
  have hnew2 := hX1.heap_ hnew
  have hs4 : ((w2.alloc (.cells #[.int .i64 k, .int .i64 (-1), .int .i64 (-1)] 80)).alloc (.cells #[.pointer (some ⟨wr.heap.size, 0, none⟩)] 81)).heap.size = wr.heap.size + 2 := by simp [hs2]
  generalize (w2.alloc (.cells #[.int .i64 k, .int .i64 (-1), .int .i64 (-1)] 80)).alloc (.cells #[.pointer (some ⟨wr.heap.size, 0, none⟩)] 81) = w3 at *
  have hga : ∀ p, p < k → updN ga k wr.heap.size p = ga p := fun p hp => by simp [updN, show p ≠ k by omega]
  have hgalt : ∀ p, p < k → opB (cdAt l p) = true → ga p < wr.heap.size := fun p hp hop => lt_of_block (h.blk p hp hop).2
  have hpk : ∀ p, p < k + 1 → p ≠ k → p < k := fun p a b => by omega
  refine ⟨⟨arv, (a1.ext hX).kept hg (.inr (Ne.symm (ownBlock_ne (w := w) h.stk (by simp))))⟩, ?_, ?_, ?_, ?_, ?_, ?_⟩
  · have := (o1.ext hX).kept hg (.inr (Ne.symm (ownBlock_ne (w := w) h.stk (by simp))))
    rw [ownRow_set (ga' := updN ga k wr.heap.size) hk _ (by simp [ownV, ownP, ho, ptrV, updN]) hga] at this
    exact this
  · have e : (k :: st).reverse.map (ptrV (updN ga k wr.heap.size)) = st.reverse.map (ptrV ga) ++ [.pointer (some ⟨wr.heap.size, 0, none⟩)] := by
      rw [List.reverse_cons, List.map_append]
      congr 1
      · apply List.map_congr_left
        intro p hp
        have := hlt p (by simpa using hp)
        simp only [ptrV, hga p this]
      · simp [ptrV, updN]
    rw [e]
    exact h6
  · intro p hp hop
    by_cases e : p = k
    · subst e
      refine ⟨by simp [updN]; omega, ?_⟩
      have hne : some wr.heap.size ≠ Value.ownBlock (.slice As st.length cs) := fun e => by have := (h.stk.block _ e.symm).2; omega
      have e1 : updN ga p wr.heap.size p = wr.heap.size := by simp [updN]
      rw [e1, hg.block _ (by omega) hne, hnew2]
      simp [updI]
    · have hp' := hpk p hp e
      rw [hga p hp']
      refine ⟨(h.blk p hp' hop).1, ?_⟩
      rw [hg.block _ (by have := hgalt p hp' hop; omega) (h.ga_ne_stk hp' hop), hX.heap_ (b1 p hp' hop).2]
      simp [updI, e]
  · intro p q hp hq hop hoq he
    by_cases e1 : p = k <;> by_cases e2 : q = k
    · omega
    · subst e1
      rw [hga q (hpk q hq e2)] at he
      have := hgalt q (hpk q hq e2) hoq
      simp [updN] at he
      omega
    · subst e2
      rw [hga p (hpk p hp e1)] at he
      have := hgalt p (hpk p hp e1) hop
      simp [updN] at he
      omega
    · rw [hga p (hpk p hp e1), hga q (hpk q hq e2)] at he
      exact h.inj p q (hpk p hp e1) (hpk q hq e2) hop hoq he
  · exact (hbel.trans (hX.below.mono (by omega))).grown hg (by omega) (fun g e => by have := (h.stk.block g e).1; omega)
  · have := hg.size
    omega

/-- A field of the block that is opened at p is written. -/
theorem WInv.set_blk (h : WInv w l k st ga oth en As cs wr) (ho : opB (cdAt l k) = false) {p f : Nat} (hp : p < k) (hop : opB (cdAt l p) = true) (hk : k < l.length) (hv : ownV l ga k = ptrV ga p) (u : Int) (oth' en' : Nat → Int)
    (ho' : ∀ q, q < k → opB (cdAt l q) = true → (if q = p then (#[Value.int .i64 p, .int .i64 (oth p), .int .i64 (en p)] : Array Value).setIfInBounds f (.int .i64 u) else #[.int .i64 q, .int .i64 (oth q), .int .i64 (en q)]) = #[.int .i64 q, .int .i64 (oth' q), .int .i64 (en' q)]) :
    WInv w l (k + 1) st ga oth' en' As cs ((wr.setCell ⟨w.heap.size + 1, k, none⟩ (ptrV ga p)).setCell ⟨ga p, f, none⟩ (.int .i64 u)) := by
  obtain ⟨o1, ⟨arv, a1⟩, s1, b1⟩ := h.set_own (ptrV ga p)
  have hbel := h.bel.setCell (p := ⟨w.heap.size + 1, k, none⟩) (Nat.le_succ _) (ptrV ga p)
  have hs2 : (wr.setCell ⟨w.heap.size + 1, k, none⟩ (ptrV ga p)).heap.size = wr.heap.size := size_set _ _ _
  generalize wr.setCell ⟨w.heap.size + 1, k, none⟩ (ptrV ga p) = w2 at *
  have hg := (h.blk p hp hop).1
  have hpk : ∀ q, q < k + 1 → opB (cdAt l q) = true → q < k := fun q hq hoq => by
    by_cases e : q = k
    · subst e; rw [ho] at hoq; cases hoq
    · omega
  refine ⟨⟨arv, a1.set_other (by simp [Value.ownBlock]; omega) _⟩, ?_, ?_, ?_, fun a b ha hb hoa hob => h.inj a b (hpk a ha hoa) (hpk b hb hob) hoa hob, hbel.setCell (by show _ ≤ ga p; omega) _, by rw [size_set, hs2]; exact h.siz⟩
  · rw [ownRow_set (ga' := ga) hk _ hv.symm (fun _ _ => rfl)] at o1
    exact o1.set_other (by simp [Value.ownBlock]; omega) _
  · exact s1.set_other (Ne.symm (h.ga_ne_stk hp hop)) _
  · intro q hq hoq
    have hq' := hpk q hq hoq
    refine ⟨(h.blk q hq' hoq).1, ?_⟩
    rw [← ho' q hq' hoq]
    by_cases e : q = p
    · subst e
      rw [if_pos rfl]
      exact heap_set_same (b1 q hq' hoq).2 f _
    · rw [if_neg e, heap_set_other (fun e2 => e (h.inj q p hq' hp hoq hop e2))]
      exact (b1 q hq' hoq).2
theorem WInv.pop (h : WInv w l k st ga oth en As cs wr) {p : Nat} {s : List Nat} (hs : st = p :: s) : WInv w l k s ga oth en As cs wr := by
  subst hs
  refine ⟨h.arr, h.own, ?_, h.blk, h.inj, h.bel, h.siz⟩
  have := h.stk.take_ (m := s.length) (by simp)
  have e : ((p :: s).reverse.map (ptrV ga)).take (s.length * 1) = s.reverse.map (ptrV ga) := by
    rw [List.reverse_cons, List.map_append, List.take_append_of_le_length (by simp), List.take_of_length_le (by simp)]
  rw [e] at this
  exact this

/-- Nothing of the row 'own' is written at place k. -/
theorem WInv.next (h : WInv w l k st ga oth en As cs wr) (hk : k < l.length) (ho : opB (cdAt l k) = false) (h2 : (cdAt l k).op ≠ 12) (h3 : (cdAt l k).op ≠ 14) : WInv w l (k + 1) st ga oth en As cs wr := by
  have hv : ownV l ga k = .pointer none := by simp [ownV, ownP, ho, h2, h3]
  have hp : ∀ p, p < k + 1 → opB (cdAt l p) = true → p < k := fun p hp hop => by
    by_cases e : p = k
    · subst e; rw [ho] at hop; cases hop
    · omega
  exact ⟨h.arr, by rw [← ownRow_same hk hv]; exact h.own, h.stk, fun p hp' hop => h.blk p (hp p hp' hop) hop, fun p q a b c d => h.inj p q (hp p a c) (hp q b d) c d, h.bel, h.siz⟩
end
end Go.Proofs.Ytcpjhlkcfohkiaa
