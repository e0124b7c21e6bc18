/- Part 7 of what the claim needs. -/
import Derived.Test.YtelbfeidpcojmaaGreatSa4
import Derived.Test.YtelbfeidpcojmaaGreatSa5
import Derived.Test.YtelbfeidpcojmaaGreatSa6
import Derived.StillTailTactics
import Derived.IntWalk
import Derived.Deep.RegionHeld3
import Derived.Deep.RegionLaw
import Derived.Deep.AppendLies
import Derived.Deep.CutRange
import Derived.Maps.AppendAt
import Derived.Deep.LoopGhost
import Derived.Laws.IdiomCopy
namespace Go.Proofs.YtelbfeidpcojmaaGreat
open Go.RowKit
set_option linter.unusedVariables false
set_option linter.unusedSimpArgs false

theorem OI.at_empty {w : World} {B g : Nat} (h : w.heap[g]? = some (.cells #[] 3 (0, 0))) (hB : B ≤ g) : OI w B (some ⟨g, 0, none⟩) 0 0 [] :=
  ⟨rfl, .inr ⟨g, 0, #[], rfl, hB, h, by simp, by simp⟩⟩
section
variable {w : World} {o : Oper} {a : Act} {K : Act → World → Prop} {Q : Exit → Act → World → Prop}
set_option maxRecDepth 100000 in
/-- append([]int{}, xs...). -/
theorem wp_app_new (s x : Operand) (ho : o.op = .call { callee := .builtin .append, args := #[s, x], argTypes := #[24, 24] })
    (base g : Nat) (hbg : base ≤ g) (hs : a.eval s = .slice (some ⟨g, 0, none⟩) 0 0) (hblk : w.heap[g]? = some (.cells #[] 3 (0, 0)))
    (B : Nat) (S : Option Addr) (m cc : Nat) (news : List Int) (hx : a.eval x = .slice S m cc) (hm : news.length = m) (hc : S = none → cc = 0) (hrd : RdI w B S news) (hn : m ≤ 1000000)
    (h : ∀ g2 c' w', OI w' base (some ⟨g2, 0, none⟩) m c' news → w.grownBy w' (some g) → (g2 = g ∨ g2 = w.heap.size) → K (a.put o.dst (.slice (some ⟨g2, 0, none⟩) m c')) w') :
    Oper.wp Tryz.prog o a w K Q := by
  have hown := OI.at_empty hblk hbg
  have hgl : g < w.heap.size := lt_of_block hblk
  obtain ⟨i0, hi, hz0, hz1, hz2⟩ := info_parts infoInt
  cases S with
  | none =>
    obtain rfl := hc rfl
    have h0 : m = 0 := by
      rcases Nat.eq_zero_or_pos m with h | h
      · exact h
      · obtain ⟨b, off, e, _⟩ := hrd.2 (by omega)
        cases e
    subst h0
    obtain rfl : news = [] := List.eq_nil_of_length_eq_zero hm
    have hrun := run_append_owned_none (P := Tryz.prog) (w := w) base 24 o.type 3 i0 1 Tryz.underlying24 hi _ 0 _ hown
    unfold Oper.wp
    simp [execOp, ho, resolve, invoke, builtin, hs, hx, hrun, Result.andThen]
    exact h g 0 w hown (grown_refl _ _) (.inl rfl)
  | some ad =>
    obtain ⟨v', w', hr, h2, h3, h4, h5⟩ := run_append_own_at (P := Tryz.prog) w base 24 o.type 3 i0 _ 1 8 Tryz.underlying24 hi hz0 hz1 hz2 rfl (by omega) (.slice (some ⟨g, 0, none⟩) 0 0) 0 [] hown ad m cc (news.map (.int .i64)) (by simp [hm])
      (by
        intro j u hu
        have hj : j < news.length := by
          have := (List.getElem?_eq_some_iff.1 hu).1
          simpa using this
        obtain ⟨b, off, e, hb, hcc⟩ := hrd.2 (by omega)
        injection e with e
        subst e
        have := hcc j u hu
        rw [add_lit]
        exact this)
      (ints_one news) (by unfold maxLen; omega) (by omega) (by omega)
    have hv : ∃ g2 c', v' = .slice (some ⟨g2, 0, none⟩) m c' := by
      rcases h2.2 with ⟨hv, _⟩ | ⟨g2, cap, cur, hv, _⟩
      · have := (h4.1 hv).1
        simp at this
      · rw [Nat.zero_add] at hv
        exact ⟨g2, cap, hv⟩
    obtain ⟨g2, c', rfl⟩ := hv
    rw [Nat.zero_add, List.nil_append] at h2
    unfold Oper.wp execOp
    simp only [ho, resolve, invoke, builtin, Sem.run_bind, Sem.run_pure, Result.andThen_ok, List.map_toArray, List.map_cons, List.map_nil, hs, hx, hr]
    refine h g2 c' w' h2 h3 ?_
    rcases h5 with h5 | h5
    · left; simpa [Value.ownBlock] using h5
    · right; simpa [Value.ownBlock] using h5
end

/-- A lane as a value. -/
def lnV (R : Option Addr) (rc : Nat) (T : Option Addr) (tc : Nat) (s : Ln) : Value := .agg #[.slice R 4 rc, .int .i64 s.pos, .slice T s.turns.length tc, .bool s.waits]
/-- A lane of the call's own. -/
structure LnO (w : World) (B r rc t tc : Nat) (s : Ln) : Prop where
  regs : OI w B (some ⟨r, 0, none⟩) 4 rc s.regs
  turns : OI w B (some ⟨t, 0, none⟩) s.turns.length tc s.turns
  ne : r ≠ t

/-- A region that draws, by an invariant of what has been listed, in the form with a fact that is held. -/
theorem wpAnyH_inv {P : Program} {md : Region.Mode} {ops : Array Oper} {Q : Exit → Act → World → Prop} {S : World → Prop} (Inv : Nat → Array Bool → Act → World → Prop) (hS : ∀ n listed a w, Inv n listed a w → S w)
    (hstep : ∀ n listed a w, Inv (n + 1) listed a w → ∀ i ∈ Region.ready md ops listed, ∀ K : Act → World → Prop, (∀ a' w', Inv n (listed.setIfInBounds i true) a' w' → K a' w') → wpOp P ops Q i K a w)
    (hdone : ∀ n listed a w, Inv n listed a w → Region.ready md ops listed = [] → Q .normal a w)
    (hend : ∀ listed a w, Inv 0 listed a w → Region.ready md ops listed = []) :
    ∀ fuel listed a w, Inv fuel listed a w → wpAnyH P md ops Q S fuel listed a w
  | 0, listed, a, w, h => ⟨hend _ _ _ h, hdone _ _ _ _ h (hend _ _ _ h)⟩
  | fuel + 1, listed, a, w, h => ⟨hdone _ _ _ _ h, fun i hi => hstep _ _ _ _ h i hi _ (fun a' w' h' => ⟨hS _ _ _ _ h', wpAnyH_inv Inv hS hstep hdone hend fuel _ _ _ h'⟩)⟩

def cpDep (i : Nat) (b0 b3 b6 b9 b12 b13 : Bool) : Bool :=
  (i == 0 && !b0) || (i == 3 && !b3 && b0) || (i == 6 && !b6) || (i == 9 && !b9 && b6) || (i == 12 && !b12 && b3 && b9) || (i == 13 && !b13 && b12)
def cnt6 (b0 b3 b6 b9 b12 b13 : Bool) : Nat := (!b0).toNat + (!b3).toNat + (!b6).toNat + (!b9).toNat + (!b12).toNat + (!b13).toNat
theorem cp_ready {md : Region.Mode} {ops : Array Oper} (hall : ∀ b0 b3 b6 b9 b12 b13 : Bool, (Region.ready md ops #[b0, true, true, b3, true, true, b6, true, true, b9, true, true, b12, b13]).all (fun i => cpDep i b0 b3 b6 b9 b12 b13) = true)
    {b0 b3 b6 b9 b12 b13 : Bool} {i : Nat} (hi : i ∈ Region.ready md ops #[b0, true, true, b3, true, true, b6, true, true, b9, true, true, b12, b13]) : cpDep i b0 b3 b6 b9 b12 b13 = true :=
  List.all_eq_true.1 (hall b0 b3 b6 b9 b12 b13) i hi
theorem cp_done {md : Region.Mode} {ops : Array Oper} (hall : ∀ b0 b3 b6 b9 b12 b13 : Bool, ((Region.ready md ops #[b0, true, true, b3, true, true, b6, true, true, b9, true, true, b12, b13]).isEmpty → (b0 && b3 && b6 && b9 && b12 && b13)) = true)
    {b0 b3 b6 b9 b12 b13 : Bool} (h : Region.ready md ops #[b0, true, true, b3, true, true, b6, true, true, b9, true, true, b12, b13] = []) : (b0 && b3 && b6 && b9 && b12 && b13) = true := by
  have := hall b0 b3 b6 b9 b12 b13
  rw [h] at this
  simpa using this
theorem cnt6_zero {b0 b3 b6 b9 b12 b13 : Bool} (h : 0 = cnt6 b0 b3 b6 b9 b12 b13) : (b0 && b3 && b6 && b9 && b12 && b13) = true := by
  revert b0 b3 b6 b9 b12 b13
  decide +kernel

abbrev zeroL : Array Value := #[.slice none 0 0, .int .i64 0, .slice none 0 0, .bool false]
abbrev boxL (R : Option Addr) (rc : Nat) (T : Option Addr) (tc : Nat) (p : Nat) (k : Nat) (b : Bool) : Array Value := #[.slice R 4 rc, .int .i64 p, .slice T k tc, .bool b]
def cpAct (R : Option Addr) (rc : Nat) (T : Option Addr) (tc : Nat) (p k : Nat) (b : Bool) (wb : Nat) (y3 y6 y9 y12 y15 : Value) : Act :=
  { tmps := #[.agg (boxL R rc T tc p k b), .pointer (some ⟨wb, 0, none⟩), .pointer (some ⟨wb + 1, 0, none⟩), y3, .pointer (some ⟨wb, 0, none⟩), .slice R 4 rc, y6, .pointer (some ⟨wb, 1, none⟩), .int .i64 p, y9, .pointer (some ⟨wb, 2, none⟩), .slice T k tc, y12, .pointer (some ⟨wb, 3, none⟩), .bool b, y15], defers := [] }
structure CpF (wb p : Nat) (rs ts : List Int) (b : Bool) (b0 b3 b6 b9 b12 b13 : Bool) (y3 y6 y9 y12 y15 : Value) (q3 q9 : Nat) (w : World) : Prop where
  res : b13 = false → w.heap[wb + 1]? = some (.cells zeroL 84 (0, 0))
  s0 : b0 = true → b3 = false → y3 = .slice (some ⟨q3, 0, none⟩) 0 0 ∧ w.heap[q3]? = some (.cells #[] 3 (0, 0)) ∧ wb + 2 ≤ q3
  s3 : b3 = true → b0 = true ∧ ∃ c, y6 = .slice (some ⟨q3, 0, none⟩) 4 c ∧ OI w (wb + 2) (some ⟨q3, 0, none⟩) 4 c rs
  s6 : b6 = true → b9 = false → y9 = .slice (some ⟨q9, 0, none⟩) 0 0 ∧ w.heap[q9]? = some (.cells #[] 3 (0, 0)) ∧ wb + 2 ≤ q9
  s9 : b9 = true → b6 = true ∧ ∃ c, y12 = .slice (some ⟨q9, 0, none⟩) ts.length c ∧ OI w (wb + 2) (some ⟨q9, 0, none⟩) ts.length c ts
  ne : b0 = true → b6 = true → q3 ≠ q9
  s12 : b12 = true → b3 = true ∧ b9 = true ∧ y15 = .agg #[y6, .int .i64 p, y12, .bool b]
  s13 : b13 = true → b12 = true ∧ ∃ c3 c9, w.heap[wb + 1]? = some (.cells #[.slice (some ⟨q3, 0, none⟩) 4 c3, .int .i64 p, .slice (some ⟨q9, 0, none⟩) ts.length c9, .bool b] 84 (0, 0)) ∧ OI w (wb + 2) (some ⟨q3, 0, none⟩) 4 c3 rs ∧ OI w (wb + 2) (some ⟨q9, 0, none⟩) ts.length c9 ts
section
variable {wb p : Nat} {rs ts : List Int} {b : Bool} {b0 b3 b6 b9 b12 b13 : Bool} {y3 y6 y9 y12 y15 : Value} {q3 q9 : Nat} {w w' : World}
theorem CpF.l3 (h : CpF wb p rs ts b b0 b3 b6 b9 b12 b13 y3 y6 y9 y12 y15 q3 q9 w) (e : b0 = true) : wb + 2 ≤ q3 ∧ q3 < w.heap.size := by
  cases hb : b3 with
  | false => obtain ⟨-, h1, h2⟩ := h.s0 e hb; exact ⟨h2, lt_of_block h1⟩
  | true => obtain ⟨-, c, -, h1⟩ := h.s3 hb; exact OR.base_le h1
theorem CpF.l9 (h : CpF wb p rs ts b b0 b3 b6 b9 b12 b13 y3 y6 y9 y12 y15 q3 q9 w) (e : b6 = true) : wb + 2 ≤ q9 ∧ q9 < w.heap.size := by
  cases hb : b9 with
  | false => obtain ⟨-, h1, h2⟩ := h.s6 e hb; exact ⟨h2, lt_of_block h1⟩
  | true => obtain ⟨-, c, -, h1⟩ := h.s9 hb; exact OR.base_le h1
theorem CpF.ext (h : CpF wb p rs ts b b0 b3 b6 b9 b12 b13 y3 y6 y9 y12 y15 q3 q9 w) (hx : Ext w w') : CpF wb p rs ts b b0 b3 b6 b9 b12 b13 y3 y6 y9 y12 y15 q3 q9 w' := by
  refine ⟨fun e => hx.heap_ (h.res e), fun e e2 => ?_, fun e => ?_, fun e e2 => ?_, fun e => ?_, h.ne, h.s12, fun e => ?_⟩
  · obtain ⟨h1, h2, h3⟩ := h.s0 e e2; exact ⟨h1, hx.heap_ h2, h3⟩
  · obtain ⟨h1, c, h2, h3⟩ := h.s3 e; exact ⟨h1, c, h2, OR.ext h3 hx⟩
  · obtain ⟨h1, h2, h3⟩ := h.s6 e e2; exact ⟨h1, hx.heap_ h2, h3⟩
  · obtain ⟨h1, c, h2, h3⟩ := h.s9 e; exact ⟨h1, c, h2, OR.ext h3 hx⟩
  · obtain ⟨h1, c3, c9, h2, h3, h4⟩ := h.s13 e; exact ⟨h1, c3, c9, hx.heap_ h2, OR.ext h3 hx, OR.ext h4 hx⟩
end
def cpInv (w0 : World) (R : Option Addr) (rc : Nat) (T : Option Addr) (tc : Nat) (p : Nat) (rs ts : List Int) (b : Bool) (wb : Nat) (n : Nat) (L : Array Bool) (a : Act) (w : World) : Prop :=
  ∃ (b0 b3 b6 b9 b12 b13 : Bool) (y3 y6 y9 y12 y15 : Value) (q3 q9 : Nat), L = #[b0, true, true, b3, true, true, b6, true, true, b9, true, true, b12, b13] ∧ n = cnt6 b0 b3 b6 b9 b12 b13 ∧ a = cpAct R rc T tc p ts.length b wb y3 y6 y9 y12 y15 ∧
    w.heap[wb]? = some (.cells (boxL R rc T tc p ts.length b) 84 (0, 0)) ∧ Below wb w0 w ∧ wb + 2 ≤ w.heap.size ∧ CpF wb p rs ts b b0 b3 b6 b9 b12 b13 y3 y6 y9 y12 y15 q3 q9 w
theorem OI.kept_ne {w w' : World} {base g q n c : Nat} {xs : List Int} (h : OI w base (some ⟨q, 0, none⟩) n c xs) (hg : w.grownBy w' (some g)) (hne : g ≠ q) : OI w' base (some ⟨q, 0, none⟩) n c xs :=
  OR.kept h hg (.inr fun e => hne (by injection e with e; exact e.symm))
theorem blk_ne {w w' : World} {g k : Nat} {o : Obj} (hg : w.grownBy w' (some g)) (hne : g ≠ k) (h : w.heap[k]? = some o) : w'.heap[k]? = some o :=
  (hg.block k (Array.getElem?_eq_some_iff.1 h).1 (fun e => hne (by injection e with e; exact e.symm))).trans h
theorem below_grow {w0 w w' : World} {B g : Nat} (h : Below B w0 w) (hg : w.grownBy w' (some g)) (h0 : B ≤ w.heap.size) (hB : B ≤ g) : Below B w0 w' :=
  h.grown hg h0 (fun k e => by injection e with e; omega)

set_option maxRecDepth 100000 in
set_option maxHeartbeats 8000000 in
theorem l6Copy_c (R T : Option Addr) (rc tc : Nat) (s : Ln) (w : World) (hR : RdI w w.heap.size R s.regs) (h4 : s.regs.length = 4) (hT : RdI w w.heap.size T s.turns) (ht : s.turns.length ≤ 3) (htc : T = none → tc = 0) :
    Calls Tryz.prog 99 #[lnV R rc T tc s] w fun e w' => ∃ r rc' t tc', e = .returned (lnV (some ⟨r, 0, none⟩) rc' (some ⟨t, 0, none⟩) tc' s) ∧ LnO w' w.heap.size r rc' t tc' s ∧ Below w.heap.size w w' := by
  have hrc : R = none → rc = 0 := fun e => by
    obtain ⟨b, off, e2, _⟩ := hR.2 (by omega)
    rw [e] at e2; cases e2
  unfold lnV
  obtain ⟨sr, sp, st, sw⟩ := s
  simp only at hR h4 hT ht ⊢
  have hX1 := Ext.alloc w (.cells (boxL R rc T tc sp st.length sw) 84)
  have hN1 := heap_alloc_new w (.cells (boxL R rc T tc sp st.length sw) 84)
  have hX2 := Ext.alloc (w.alloc (.cells (boxL R rc T tc sp st.length sw) 84)) (.cells zeroL 84)
  have hN2 := heap_alloc_new (w.alloc (.cells (boxL R rc T tc sp st.length sw) 84)) (.cells zeroL 84)
  have hN1' := hX2.heap_ hN1
  have hXB := (hX1.trans hX2).below
  have hsz : ((w.alloc (.cells (boxL R rc T tc sp st.length sw) 84)).alloc (.cells zeroL 84)).heap.size = w.heap.size + 2 := by simp
  have hsz1 : (w.alloc (.cells (boxL R rc T tc sp st.length sw) 84)).heap.size = w.heap.size + 1 := by simp
  rw [hsz1] at hN2
  clear hX1 hX2 hN1 hsz1
  go_enter Tryz.func99, Tryz.ntmps99
  go_wp2_with fail
  generalize (w.alloc (.cells (boxL R rc T tc sp st.length sw) 84)).alloc (.cells zeroL 84) = w2 at *
  generalize hwb : w.heap.size = wb at *
  have hRh := Lib.hid hR
  have hTh := Lib.hid hT
  have hsz2 := Lib.hid hsz
  clear hR hT hsz
  refine wp_region_held_drew (S := fun w' => w'.heap[wb]? = some (.cells (boxL R rc T tc sp st.length sw) 84 (0, 0))) (by kernel_rfl) hN1' (fun hHeld => ?_)
  refine wpAnyH_take (i := 1) (v := ?_) rfl (by decide +kernel) (by decide +kernel) (by decide +kernel) (fun _ _ _ h => h) (Or.inl ⟨by rfl, ?_⟩) (by assumption) ?_
  rotate_left
  · (intro w hSw; (try dsimp only at hSw); have e0 := cell_of_heap hSw 0; have e1 := cell_of_heap hSw 1; have e2 := cell_of_heap hSw 2; have e3 := cell_of_heap hSw 3; clear hSw; (try dsimp only [List.getElem_toArray, List.getElem_cons_succ, List.getElem_cons_zero]); go_simp)
    try with_reducible rfl
  try simp only [List.getElem_toArray, List.getElem_cons_succ, List.getElem_cons_zero, Act.put, List.setIfInBounds_toArray, List.set_cons_zero, List.set_cons_succ]
  refine wpAnyH_take (i := 2) (v := ?_) rfl (by decide +kernel) (by decide +kernel) (by decide +kernel) (fun _ _ _ h => h) (Or.inl ⟨by rfl, ?_⟩) (by assumption) ?_
  rotate_left
  · (intro w hSw; (try dsimp only at hSw); have e0 := cell_of_heap hSw 0; have e1 := cell_of_heap hSw 1; have e2 := cell_of_heap hSw 2; have e3 := cell_of_heap hSw 3; clear hSw; (try dsimp only [List.getElem_toArray, List.getElem_cons_succ, List.getElem_cons_zero]); go_simp)
    try with_reducible rfl
  try simp only [List.getElem_toArray, List.getElem_cons_succ, List.getElem_cons_zero, Act.put, List.setIfInBounds_toArray, List.set_cons_zero, List.set_cons_succ]
  refine wpAnyH_take (i := 4) (v := ?_) rfl (by decide +kernel) (by decide +kernel) (by decide +kernel) (fun _ _ _ h => h) (Or.inl ⟨by rfl, ?_⟩) (by assumption) ?_
  rotate_left
  · (intro w hSw; (try dsimp only at hSw); have e0 := cell_of_heap hSw 0; have e1 := cell_of_heap hSw 1; have e2 := cell_of_heap hSw 2; have e3 := cell_of_heap hSw 3; clear hSw; (try dsimp only [List.getElem_toArray, List.getElem_cons_succ, List.getElem_cons_zero]); go_simp)
    try with_reducible rfl
  try simp only [List.getElem_toArray, List.getElem_cons_succ, List.getElem_cons_zero, Act.put, List.setIfInBounds_toArray, List.set_cons_zero, List.set_cons_succ]
  refine wpAnyH_take (i := 5) (v := ?_) rfl (by decide +kernel) (by decide +kernel) (by decide +kernel) (fun _ _ _ h => h) (Or.inl ⟨by rfl, ?_⟩) (by assumption) ?_
  rotate_left
  · (intro w hSw; (try dsimp only at hSw); have e0 := cell_of_heap hSw 0; have e1 := cell_of_heap hSw 1; have e2 := cell_of_heap hSw 2; have e3 := cell_of_heap hSw 3; clear hSw; (try dsimp only [List.getElem_toArray, List.getElem_cons_succ, List.getElem_cons_zero]); go_simp)
    try with_reducible rfl
  try simp only [List.getElem_toArray, List.getElem_cons_succ, List.getElem_cons_zero, Act.put, List.setIfInBounds_toArray, List.set_cons_zero, List.set_cons_succ]
  refine wpAnyH_take (i := 7) (v := ?_) rfl (by decide +kernel) (by decide +kernel) (by decide +kernel) (fun _ _ _ h => h) (Or.inl ⟨by rfl, ?_⟩) (by assumption) ?_
  rotate_left
  · (intro w hSw; (try dsimp only at hSw); have e0 := cell_of_heap hSw 0; have e1 := cell_of_heap hSw 1; have e2 := cell_of_heap hSw 2; have e3 := cell_of_heap hSw 3; clear hSw; (try dsimp only [List.getElem_toArray, List.getElem_cons_succ, List.getElem_cons_zero]); go_simp)
    try with_reducible rfl
  try simp only [List.getElem_toArray, List.getElem_cons_succ, List.getElem_cons_zero, Act.put, List.setIfInBounds_toArray, List.set_cons_zero, List.set_cons_succ]
  refine wpAnyH_take (i := 8) (v := ?_) rfl (by decide +kernel) (by decide +kernel) (by decide +kernel) (fun _ _ _ h => h) (Or.inl ⟨by rfl, ?_⟩) (by assumption) ?_
  rotate_left
  · (intro w hSw; (try dsimp only at hSw); have e0 := cell_of_heap hSw 0; have e1 := cell_of_heap hSw 1; have e2 := cell_of_heap hSw 2; have e3 := cell_of_heap hSw 3; clear hSw; (try dsimp only [List.getElem_toArray, List.getElem_cons_succ, List.getElem_cons_zero]); go_simp)
    try with_reducible rfl
  try simp only [List.getElem_toArray, List.getElem_cons_succ, List.getElem_cons_zero, Act.put, List.setIfInBounds_toArray, List.set_cons_zero, List.set_cons_succ]
  refine wpAnyH_take (i := 10) (v := ?_) rfl (by decide +kernel) (by decide +kernel) (by decide +kernel) (fun _ _ _ h => h) (Or.inl ⟨by rfl, ?_⟩) (by assumption) ?_
  rotate_left
  · (intro w hSw; (try dsimp only at hSw); have e0 := cell_of_heap hSw 0; have e1 := cell_of_heap hSw 1; have e2 := cell_of_heap hSw 2; have e3 := cell_of_heap hSw 3; clear hSw; (try dsimp only [List.getElem_toArray, List.getElem_cons_succ, List.getElem_cons_zero]); go_simp)
    try with_reducible rfl
  try simp only [List.getElem_toArray, List.getElem_cons_succ, List.getElem_cons_zero, Act.put, List.setIfInBounds_toArray, List.set_cons_zero, List.set_cons_succ]
  refine wpAnyH_take (i := 11) (v := ?_) rfl (by decide +kernel) (by decide +kernel) (by decide +kernel) (fun _ _ _ h => h) (Or.inl ⟨by rfl, ?_⟩) (by assumption) ?_
  rotate_left
  · (intro w hSw; (try dsimp only at hSw); have e0 := cell_of_heap hSw 0; have e1 := cell_of_heap hSw 1; have e2 := cell_of_heap hSw 2; have e3 := cell_of_heap hSw 3; clear hSw; (try dsimp only [List.getElem_toArray, List.getElem_cons_succ, List.getElem_cons_zero]); go_simp)
    try with_reducible rfl
  try simp only [List.getElem_toArray, List.getElem_cons_succ, List.getElem_cons_zero, Act.put, List.setIfInBounds_toArray, List.set_cons_zero, List.set_cons_succ]
  refine wpAnyH_inv (cpInv w R rc T tc sp sr st sw wb) ?_ ?_ ?_ ?_ _ _ _ _ ?_
  · rintro n L a w1 ⟨b0, b3, b6, b9, b12, b13, y3, y6, y9, y12, y15, q3, q9, rfl, hn, rfl, hS, hB, hsz, hF⟩
    exact hS
  · rintro n L a w1 ⟨b0, b3, b6, b9, b12, b13, y3, y6, y9, y12, y15, q3, q9, rfl, hn, rfl, hS, hB, hsz, hF⟩ i hi K0 hK0
    have hd := cp_ready (by decide +kernel) hi
    clear hi
    simp only [cpDep, Bool.or_eq_true, Bool.and_eq_true, beq_iff_eq, Bool.not_eq_true'] at hd
    rcases hd with ((((hd | hd) | hd) | hd) | hd) | hd
    · obtain ⟨rfl, rfl⟩ := hd
      refine wpOp_step rfl (fun K2 hK2 => ?_)
      dsimp only [cpAct]
      go_simp
      have hx := Ext.alloc w1 (.cells #[] 3)
      have hF2 := hF.ext hx
      exact hK2 _ _ (hK0 _ _ ⟨true, b3, b6, b9, b12, b13, _, y6, y9, y12, y15, w1.heap.size, q9, rfl, by simp [cnt6] at hn ⊢; omega, rfl, hx.heap_ hS, hB.alloc (by omega) _, by simp; omega,
        ⟨hF2.res, fun _ _ => ⟨rfl, heap_alloc_new _ _, hsz⟩, fun e => absurd (hF.s3 e).1 (by simp), hF2.s6, hF2.s9, fun _ e => by have := (hF.l9 e).2; omega, hF2.s12, fun e => absurd (hF.s3 (hF.s12 (hF.s13 e).1).1).1 (by simp)⟩⟩)
    · obtain ⟨⟨rfl, rfl⟩, rfl⟩ := hd
      obtain ⟨rfl, hblk, hq⟩ := hF.s0 rfl rfl
      have hrd : RdI w1 wb R sr := hRh.out.below hB
      refine wpOp_step rfl (fun K2 hK2 => ?_)
      dsimp only [cpAct]
      refine (if_pos ?hwA).mpr ?_
      case hwA => rfl
      refine wp_app_new _ _ rfl (wb + 2) q3 hq rfl hblk wb R 4 rc sr rfl h4 hrc hrd (by omega) ?_
      intro g2 c' w' hown hgrow hat
      have hg2 : wb + 2 ≤ g2 := (OR.base_le hown).1
      have e13 : b13 = false := by
        cases h : b13 with
        | false => rfl
        | true => exact absurd (hF.s12 (hF.s13 h).1).1 (by simp)
      refine hK2 _ _ (hK0 _ _ ⟨true, true, b6, b9, b12, b13, _, _, y9, y12, y15, g2, q9, rfl, by simp [cnt6] at hn ⊢; omega, rfl, blk_ne hgrow (by omega) hS, below_grow hB hgrow (by omega) (by omega), by have := hgrow.size; omega,
        ⟨fun e => blk_ne hgrow (by omega) (hF.res e), fun _ e => (by cases e), fun _ => ⟨rfl, c', rfl, hown⟩, fun e e2 => ?_, fun e => ?_, fun _ e => ?_, fun e => absurd (hF.s12 e).1 (by simp), fun e => by rw [e13] at e; cases e⟩⟩)
      · obtain ⟨h1, h2, h3⟩ := hF.s6 e e2
        exact ⟨h1, blk_ne hgrow (hF.ne rfl e) h2, h3⟩
      · obtain ⟨h1, c, h2, h3⟩ := hF.s9 e
        exact ⟨h1, c, h2, OI.kept_ne h3 hgrow (hF.ne rfl h1)⟩
      · rcases hat with rfl | rfl
        · exact hF.ne rfl e
        · have := (hF.l9 e).2; omega
    · obtain ⟨rfl, rfl⟩ := hd
      refine wpOp_step rfl (fun K2 hK2 => ?_)
      dsimp only [cpAct]
      go_simp
      have hx := Ext.alloc w1 (.cells #[] 3)
      have hF2 := hF.ext hx
      exact hK2 _ _ (hK0 _ _ ⟨b0, b3, true, b9, b12, b13, y3, y6, _, y12, y15, q3, w1.heap.size, rfl, by simp [cnt6] at hn ⊢; omega, rfl, hx.heap_ hS, hB.alloc (by omega) _, by simp; omega,
        ⟨hF2.res, hF2.s0, hF2.s3, fun _ _ => ⟨rfl, heap_alloc_new _ _, hsz⟩, fun e => absurd (hF.s9 e).1 (by simp), fun e _ => by have := (hF.l3 e).2; omega, hF2.s12, fun e => absurd (hF.s9 (hF.s12 (hF.s13 e).1).2.1).1 (by simp)⟩⟩)
    · obtain ⟨⟨rfl, rfl⟩, rfl⟩ := hd
      obtain ⟨rfl, hblk, hq⟩ := hF.s6 rfl rfl
      have hrd : RdI w1 wb T st := hTh.out.below hB
      refine wpOp_step rfl (fun K2 hK2 => ?_)
      dsimp only [cpAct]
      refine (if_pos ?hwB).mpr ?_
      case hwB => rfl
      refine wp_app_new _ _ rfl (wb + 2) q9 hq rfl hblk wb T st.length tc st rfl rfl htc hrd (by omega) ?_
      intro g2 c' w' hown hgrow hat
      have hg2 : wb + 2 ≤ g2 := (OR.base_le hown).1
      have e13 : b13 = false := by
        cases h : b13 with
        | false => rfl
        | true => exact absurd (hF.s12 (hF.s13 h).1).2.1 (by simp)
      refine hK2 _ _ (hK0 _ _ ⟨b0, b3, true, true, b12, b13, y3, y6, _, _, y15, q3, g2, rfl, by simp [cnt6] at hn ⊢; omega, rfl, blk_ne hgrow (by omega) hS, below_grow hB hgrow (by omega) (by omega), by have := hgrow.size; omega,
        ⟨fun e => blk_ne hgrow (by omega) (hF.res e), fun e e2 => ?_, fun e => ?_, fun _ e => (by cases e), fun _ => ⟨rfl, c', rfl, hown⟩, fun e _ => ?_, fun e => absurd (hF.s12 e).2.1 (by simp), fun e => by rw [e13] at e; cases e⟩⟩)
      · obtain ⟨h1, h2, h3⟩ := hF.s0 e e2
        exact ⟨h1, blk_ne hgrow (fun e3 => hF.ne e rfl e3.symm) h2, h3⟩
      · obtain ⟨h1, c, h2, h3⟩ := hF.s3 e
        exact ⟨h1, c, h2, OI.kept_ne h3 hgrow (fun e3 => hF.ne h1 rfl e3.symm)⟩
      · rcases hat with rfl | rfl
        · exact hF.ne e rfl
        · have := (hF.l3 e).2; omega
    · obtain ⟨⟨⟨rfl, rfl⟩, rfl⟩, rfl⟩ := hd
      obtain ⟨rfl, c3, rfl, ho3⟩ := hF.s3 rfl
      obtain ⟨rfl, c9, rfl, ho9⟩ := hF.s9 rfl
      refine wpOp_step rfl (fun K2 hK2 => ?_)
      dsimp only [cpAct]
      go_simp
      exact hK2 _ _ (hK0 _ _ ⟨true, true, true, true, true, b13, y3, _, y9, _, _, q3, q9, rfl, by simp [cnt6] at hn ⊢; omega, rfl, hS, hB, hsz,
        ⟨hF.res, hF.s0, hF.s3, hF.s6, hF.s9, hF.ne, fun _ => ⟨rfl, rfl, rfl⟩, fun e => absurd (hF.s13 e).1 (by simp)⟩⟩)
    · obtain ⟨⟨rfl, rfl⟩, rfl⟩ := hd
      obtain ⟨rfl, rfl, rfl⟩ := hF.s12 rfl
      obtain ⟨rfl, c3, rfl, ho3⟩ := hF.s3 rfl
      obtain ⟨rfl, c9, rfl, ho9⟩ := hF.s9 rfl
      have hres := hF.res rfl
      have l3 := hF.l3 rfl
      have l9 := hF.l9 rfl
      refine wpOp_step rfl (fun K2 hK2 => ?_)
      dsimp only [cpAct]
      refine (if_pos ?hw).mpr ?_
      case hw => rfl
      refine wp_store_row _ _ _ rfl (wb + 1) rfl _ _ _ rfl hres (by kernel_rfl) rfl (by simp [Value.oneCell']) ?_
      have hg := grown_setRow (w := w1) (wb + 1) #[.slice (some ⟨q3, 0, none⟩) 4 c3, .int .i64 sp, .slice (some ⟨q9, 0, none⟩) st.length c9, .bool sw]
      have k3 := OI.kept_ne ho3 hg (by omega)
      have k9 := OI.kept_ne ho9 hg (by omega)
      exact hK2 _ _ (hK0 _ _ ⟨true, true, true, true, true, true, y3, _, y9, _, _, q3, q9, rfl, by simp [cnt6] at hn ⊢; omega, rfl, blk_ne hg (by omega) hS, below_grow hB hg (by omega) (by omega), by have := hg.size; omega,
        ⟨fun e => (by cases e), fun _ e => (by cases e), fun _ => ⟨rfl, c3, rfl, k3⟩, fun _ e => (by cases e), fun _ => ⟨rfl, c9, rfl, k9⟩, hF.ne, fun _ => ⟨rfl, rfl, rfl⟩, fun _ => ⟨rfl, c3, c9, heap_setRow_same hres, k3, k9⟩⟩⟩)
  · rintro n L a w1 ⟨b0, b3, b6, b9, b12, b13, y3, y6, y9, y12, y15, q3, q9, rfl, hn, rfl, hS, hB, hsz, hF⟩ hr
    have hd := cp_done (by decide +kernel) hr
    simp only [Bool.and_eq_true] at hd
    obtain ⟨⟨⟨⟨⟨rfl, rfl⟩, rfl⟩, rfl⟩, rfl⟩, rfl⟩ := hd
    obtain ⟨-, c3, c9, hres, k3, k9⟩ := hF.s13 rfl
    have hne := hF.ne rfl rfl
    dsimp only [cpAct]
    go_wp2_with fail
    refine ret_cell Tryz.results99 _ rfl _ _ _ hres _ (Tryz.underlying84) rfl (by kernel_rfl) rfl ?_
    simp only [hwb]
    exact ⟨q3, c3, q9, c9, rfl, ⟨OR.mono k3 (by omega), OR.mono k9 (by omega), hne⟩, hB⟩
  · rintro L a w1 ⟨b0, b3, b6, b9, b12, b13, y3, y6, y9, y12, y15, q3, q9, rfl, hn, rfl, hS, hB, hsz, hF⟩
    have hd := cnt6_zero hn
    simp only [Bool.and_eq_true] at hd
    obtain ⟨⟨⟨⟨⟨rfl, rfl⟩, rfl⟩, rfl⟩, rfl⟩, rfl⟩ := hd
    first | rfl | decide +kernel
  · exact ⟨false, false, false, false, false, false, undef, undef, undef, undef, undef, 0, 0, rfl, rfl, rfl, hHeld, hXB.trans ⟨rfl, rfl, rfl, Nat.le_refl _, fun _ _ => rfl⟩, (by have := hsz2.out; show wb + 2 ≤ w2.heap.size; omega), ⟨fun _ => hN2, by simp, by simp, by simp, by simp, by simp, by simp, by simp⟩⟩


theorem first_of {p : Nat → Prop} : ∀ T, p T → ∃ t, t ≤ T ∧ p t ∧ ∀ s, s < t → ¬ p s := by
  intro T
  induction T using Nat.strongRecOn with
  | ind T ih =>
    intro h
    by_cases hall : ∀ s, s < T → ¬ p s
    · exact ⟨T, Nat.le_refl _, h, hall⟩
    · obtain ⟨s, hs⟩ := Classical.not_forall.1 hall
      obtain ⟨h1, h2⟩ := Classical.not_imp.1 hs
      obtain ⟨t, h3, h4, h5⟩ := ih s h1 (Classical.not_not.1 h2)
      exact ⟨t, by omega, h4, h5⟩
/-- When a run ends. -/
noncomputable def endT (l : List Cd) (sch : Nat → List Nat) (c : Cw) : Nat := Classical.epsilon fun T => overC l (runC l sch c T) = true ∧ ∀ t, t < T → overC l (runC l sch c t) = false
/-- The crowd at the end of its run. -/
noncomputable def runE (l : List Cd) (sch : Nat → List Nat) (c : Cw) : Cw := runC l sch c (endT l sch c)
theorem leftC_le {l : List Cd} (hp : pv l = true) {n : Nat} (n8 : n ≤ 8) {c : Cw} (h : CwOk l n c) : leftC l c ≤ 80000 := by
  have : ∀ ls : List Ln, (ls.map (leftOf l)).sum ≤ 10000 * ls.length := by
    intro ls
    induction ls with
    | nil => simp
    | cons s ls ih =>
      have := leftOf_le hp s
      simp only [List.map_cons, List.sum_cons, List.length_cons]
      omega
  have h1 := this c.ls
  have h2 := h.len
  unfold leftC
  omega
theorem run_T {l : List Cd} (hp : pv l = true) {n P : Nat} (n8 : n ≤ 8) {sch : Nat → List Nat} (hs : SchOk n P sch) {c : Cw} (h : CwOk l n c) (hn : NrmC l c) :
    overC l (runC l sch c (endT l sch c)) = true ∧ (∀ t, t < endT l sch c → overC l (runC l sch c t) = false) ∧ endT l sch c ≤ P * 80000 := by
  obtain ⟨T, hT, ho⟩ := run_ends hp n8 80000 sch c hs h hn (leftC_le hp n8 h)
  obtain ⟨t, h1, h2, h3⟩ := first_of (p := fun T => overC l (runC l sch c T) = true) T ho
  have hex : ∃ T, overC l (runC l sch c T) = true ∧ ∀ t, t < T → overC l (runC l sch c t) = false := ⟨t, h2, fun s hs => by
    have := h3 s hs
    simpa using this⟩
  have hE := Classical.epsilon_spec hex
  refine ⟨hE.1, hE.2, ?_⟩
  have : endT l sch c ≤ t := Nat.le_of_not_lt fun hlt => by
    have h4 := hE.2 t hlt
    rw [h2] at h4
    cases h4
  omega
theorem runE_mem {l : List Cd} (hp : pv l = true) {n P : Nat} (n8 : n ≤ 8) {sch : Nat → List Nat} (hs : SchOk n P sch) {c : Cw} (h : CwOk l n c) (hn : NrmC l c) : (runE l sch c).mem.length = c.mem.length := (run_ok' hp n8 hs h hn _).2.2

/-! ### Groups -/
/-- The schedule of runs in an order. -/
def orSch (xs : List Int) (i : Nat) : List Nat := [(xs.getD (i % xs.length) 0).toNat]
def allSch (n : Nat) (_ : Nat) : List Nat := lanesOf (2 ^ n - 1)
theorem mod_hits {P p i : Nat} (hp : p < P) : ∃ j, i ≤ j ∧ j < i + P ∧ j % P = p := by
  by_cases h : i % P ≤ p
  · refine ⟨i + (p - i % P), by omega, by omega, ?_⟩
    have h1 := Nat.div_add_mod i P
    have : i + (p - i % P) = P * (i / P) + p := by omega
    rw [this, Nat.mul_add_mod, Nat.mod_eq_of_lt hp]
  · have hm := Nat.mod_lt i (show 0 < P by omega)
    refine ⟨i + (P - i % P + p), by omega, by omega, ?_⟩
    have h1 := Nat.div_add_mod i P
    have h2 : P * (i / P + 1) = P * (i / P) + P := Nat.mul_succ _ _
    have : i + (P - i % P + p) = P * (i / P + 1) + p := by omega
    rw [this, Nat.mul_add_mod, Nat.mod_eq_of_lt hp]
theorem orSch_ok {n : Nat} {xs : List Int} (h0 : ∀ x ∈ xs, ∃ k : Nat, x = (k : Int) ∧ k < n) (h1 : ∀ k, k < n → (k : Int) ∈ xs) (hn : 1 ≤ n) : SchOk n xs.length (orSch xs) := by
  have hl : 0 < xs.length := List.length_pos_of_mem (h1 0 (by omega))
  refine ⟨fun i => by simp [orSch], fun i k hk => ?_, fun k hk i => ?_⟩
  · have hi : i % xs.length < xs.length := Nat.mod_lt _ hl
    have hm : xs.getD (i % xs.length) 0 ∈ xs := by
      rw [List.getD_eq_getElem?_getD, List.getElem?_eq_getElem hi]
      exact List.getElem_mem hi
    obtain ⟨j, hj, hjn⟩ := h0 _ hm
    have : k = (xs.getD (i % xs.length) 0).toNat := by simpa [orSch] using hk
    rw [this, hj, Int.toNat_natCast]
    exact hjn
  · obtain ⟨p, hp, hpe⟩ := List.getElem_of_mem (h1 k hk)
    obtain ⟨j, h2, h3, h4⟩ := mod_hits (i := i) hp
    refine ⟨j, h2, h3, ?_⟩
    unfold orSch
    rw [h4]
    have e : xs.getD p 0 = (k : Int) := by simp [List.getD_eq_getElem?_getD, hp, hpe]
    rw [e]; simp
theorem allSch_mem {n k i : Nat} (n8 : n ≤ 8) : k ∈ allSch n i ↔ k < n := by
  unfold allSch
  rw [lanesOf_mem, Nat.testBit_two_pow_sub_one]
  simp only [decide_eq_true_eq]
  omega
theorem allSch_ok {n : Nat} (n8 : n ≤ 8) : SchOk n 1 (allSch n) :=
  ⟨fun i => lanes_nodup _, fun i k hk => (allSch_mem n8 (i := i)).1 hk, fun k hk i => ⟨i, by omega, by omega, (allSch_mem n8).2 hk⟩⟩

/-! ### One group, groups of one -/
theorem stepG_one {l : List Cd} {c : Cw} {k : Nat} : stepG l c [k] = passC l (stepIf l c k) := by
  unfold stepG stepIf
  cases hg : goesL l (c.lane k) with
  | true =>
    have e : amongL l c [k] = [k] := by
      have := (goes_pos hg).2
      have e1 : leastP l c [k] = (c.lane k).pos := by simp [leastP, hg, this]
      simp [amongL, hg, e1]
    rw [e]
    simp
  | false =>
    rw [among_none (fun j hj => by
      have : j = k := by simpa using hj
      rw [this]; exact hg)]
    simp


def cwV (z : Gm) (n k : Nat) : Value := .agg #[.slice (some ⟨z.lb, 0, none⟩) n z.lc, .slice (some ⟨z.mb, 0, none⟩) k z.mc]
abbrev boxC (z : Gm) (n k : Nat) : Array Value := #[.slice (some ⟨z.lb, 0, none⟩) n z.lc, .slice (some ⟨z.mb, 0, none⟩) k z.mc]
def doneC (l : List Cd) (c : Cw) : Bool := c.ls.all fun s => !s.waits && decide (l.length ≤ s.pos)
theorem done_iff {l : List Cd} {n : Nat} {c : Cw} (h : CwOk l n c) : doneC l c = true ↔ ∀ k, k < n → ((c.lane k).waits = false ∧ l.length ≤ (c.lane k).pos) := by
  unfold doneC
  rw [List.all_eq_true]
  constructor
  · intro h1 k hk
    have := h1 _ (List.mem_of_getElem? (h.at_ hk).1)
    simpa using this
  · intro h1 s hs
    obtain ⟨k, hk, rfl⟩ := List.getElem_of_mem hs
    have e : c.lane k = c.ls[k] := by simp [Cw.lane, List.getD_eq_getElem?_getD, hk]
    have := h1 k (by rw [← h.len]; exact hk)
    rw [e] at this
    simp [this]
/-- Between the steps a crowd is done when its lanes are at the end. -/
theorem done_over {l : List Cd} {n : Nat} {c : Cw} (h : CwOk l n c) (hn : NrmC l c) : doneC l c = overC l c := by
  cases ho : overC l c with
  | false =>
    cases hd : doneC l c with
    | false => rfl
    | true =>
      have : overC l c = true := by
        unfold overC
        unfold doneC at hd
        rw [List.all_eq_true] at hd ⊢
        intro s hs
        have := hd s hs
        simp only [Bool.and_eq_true] at this
        exact this.2
      rw [this] at ho; cases ho
  | true =>
    unfold doneC
    rw [List.all_eq_true]
    intro s hs
    have h2 : l.length ≤ s.pos := by
      unfold overC at ho
      rw [List.all_eq_true] at ho
      simpa using ho s hs
    rcases hn with hg | ⟨-, hw⟩
    · rw [List.any_eq_true] at hg
      obtain ⟨t, ht, hgt⟩ := hg
      unfold overC at ho
      rw [List.all_eq_true] at ho
      have := ho t ht
      have h3 := (goes_pos hgt).2
      simp only [decide_eq_true_eq] at this
      omega
    · simp [hw s hs, h2]

set_option maxRecDepth 100000 in
set_option maxHeartbeats 4000000 in
theorem sl7Done_c {O : Nat → Prop} {w : World} {B n ca : Nat} {A : Option Addr} {l : List Cd} {z : Gm} {c : Cw} (h : CM O w B n z c) (hok : CwOk l n c) (hn : n ≤ 8) :
    Calls Tryz.prog 64 #[cwV z n c.mem.length, .slice A l.length ca] w fun e w' => e = .returned (.bool (doneC l c)) ∧ Ext w w' := by
  have hX := Ext.alloc w (.cells (boxC z n c.mem.length) 67)
  have hN := heap_alloc_new w (.cells (boxC z n c.mem.length) 67)
  have b0 : (w.alloc (.cells (boxC z n c.mem.length) 67)).cell? ⟨w.heap.size, 0, none⟩ = some (.slice (some ⟨z.lb, 0, none⟩) n z.lc) := cell_of_heap hN 0
  have HX := Lib.hid hX
  have HC := Lib.hid (h.ext hX)
  have HD := Lib.hid (done_iff hok)
  clear hN hX h
  unfold cwV
  go_enter Tryz.func64, Tryz.ntmps64
  go_wp2_with fail
  generalize w.alloc (.cells (boxC z n c.mem.length) 67) = w1 at *
  go_loopw [5] (fun kv wr => ∃ k : Nat, k ≤ n ∧ kv = .int .i64 k ∧ Hid (∀ j, j < k → ((c.lane j).waits = false ∧ l.length ≤ (c.lane j).pos)) ∧ Ext w1 wr) (fun kv _ => n - (intOf kv).toNat)
  case atStart => exact ⟨0, Nat.zero_le _, rfl, Lib.hid (fun j hj => absurd hj (Nat.not_lt_zero _)), Ext.refl _⟩
  case round =>
    obtain ⟨k, hk, rfl, HG, hx⟩ := hrel
    have HXr := Lib.hid hx
    have b0' := hx.cell b0
    have hC := HC.out.ext hx
    clear hx b0
    by_cases hlt : k < n
    · have hkI : (k : Int) < (n : Int) := by omega
      obtain ⟨-, e1, -, e3⟩ := hC.cells hlt
      clear hC
      cases hw : (c.lane k).waits with
      | true =>
        rw [hw] at e3
        have HF := Lib.hid (show doneC l c = false by
          cases hd : doneC l c with
          | false => rfl
          | true => rw [((HD.out.1 hd) k hlt).1] at hw; cases hw)
        clear hw
        go_wp2
        go_ret
        exact ⟨retb HF.out.symm, HX.out.trans HXr.out⟩
      | false =>
        rw [hw] at e3
        by_cases hp : (c.lane k).pos < l.length
        · have hpI : ((c.lane k).pos : Int) < (l.length : Int) := by omega
          have HF := Lib.hid (show doneC l c = false by
            cases hd : doneC l c with
            | false => rfl
            | true => have := ((HD.out.1 hd) k hlt).2; omega)
          clear hw
          go_wp2
          go_ret
          exact ⟨retb HF.out.symm, HX.out.trans HXr.out⟩
        · have hpI : ¬ ((c.lane k).pos : Int) < (l.length : Int) := by omega
          have HG2 := Lib.hid (show ∀ j, j < k + 1 → ((c.lane j).waits = false ∧ l.length ≤ (c.lane j).pos) from fun j hj => by
            by_cases e : j = k
            · rw [e]; exact ⟨hw, by omega⟩
            · exact HG.out j (by omega))
          clear hw hp
          go_wp2
          go_roundw
          case rel => exact ⟨k + 1, by omega, by go_num, HG2, HXr.out⟩
          case measure => simp [intOf]; omega
    · obtain rfl : k = n := by omega
      have hnI : ¬ ((k : Int) < (k : Int)) := by omega
      have HF := Lib.hid (HD.out.2 (fun j hj => HG.out j hj))
      clear hC
      go_wp2
      go_ret
      exact ⟨retb HF.out.symm, HX.out.trans HXr.out⟩

set_option maxRecDepth 100000 in
set_option maxHeartbeats 4000000 in
theorem sl7Free_c {O : Nat → Prop} {w : World} {B n ca : Nat} {A : Option Addr} {l : List Cd} {z : Gm} {c : Cw} (h : CM O w B n z c) (hok : CwOk l n c) (hn : n ≤ 8) (hB : B ≤ w.heap.size) :
    Calls Tryz.prog 66 #[cwV z n c.mem.length, .slice A l.length ca] w fun e w' => e = .returned (.tuple #[]) ∧ CM O w' B n z (passC l c) ∧ StC O B w w' := by
  have hX := Ext.alloc w (.cells (boxC z n c.mem.length) 67)
  have hN := heap_alloc_new w (.cells (boxC z n c.mem.length) 67)
  have b0 : (w.alloc (.cells (boxC z n c.mem.length) 67)).cell? ⟨w.heap.size, 0, none⟩ = some (.slice (some ⟨z.lb, 0, none⟩) n z.lc) := cell_of_heap hN 0
  have HX := Lib.hid hX
  have HN := Lib.hid hN
  have HC := Lib.hid (h.ext hX)
  have hB1 : B ≤ (w.alloc (.cells (boxC z n c.mem.length) 67)).heap.size := Nat.le_trans hB hX.size
  clear hN hX h
  unfold cwV
  go_enter Tryz.func66, Tryz.ntmps66
  go_wp2_with fail
  generalize w.alloc (.cells (boxC z n c.mem.length) 67) = w1 at *
  go_loopw [4] (fun kv wr => ∃ k : Nat, k ≤ n ∧ kv = .int .i64 k ∧ Hid (∀ j, j < k → goesL l (c.lane j) = false) ∧ Ext w1 wr) (fun kv _ => n - (intOf kv).toNat)
  case atStart => exact ⟨0, Nat.zero_le _, rfl, Lib.hid (fun j hj => absurd hj (Nat.not_lt_zero _)), Ext.refl _⟩
  case round =>
    obtain ⟨k, hk, rfl, HG, hx⟩ := hrel
    have HXr := Lib.hid hx
    have b0' := hx.cell b0
    have hC := HC.out.ext hx
    have HCr := Lib.hid hC
    have HNr := Lib.hid (hx.heap_ HN.out)
    have hBr : B ≤ wr.heap.size := Nat.le_trans hB1 hx.size
    clear hx b0
    by_cases hlt : k < n
    · have hkI : (k : Int) < (n : Int) := by omega
      obtain ⟨-, e1, -, e3⟩ := hC.cells hlt
      clear hC
      cases hw : (c.lane k).waits with
      | true =>
        rw [hw] at e3
        have HG2 := Lib.hid (show ∀ j, j < k + 1 → goesL l (c.lane j) = false from fun j hj => by
          by_cases e : j = k
          · rw [e]; unfold goesL; rw [hw]; rfl
          · exact HG.out j (by omega))
        clear hw
        go_wp2
        go_roundw
        case rel => exact ⟨k + 1, by omega, by go_num, HG2, HXr.out⟩
        case measure => simp [intOf]; omega
      | false =>
        rw [hw] at e3
        by_cases hp : (c.lane k).pos < l.length
        · have hpI : ((c.lane k).pos : Int) < (l.length : Int) := by omega
          have HGI := Lib.hid (show goesL l (c.lane k) = true by unfold goesL; rw [hw]; simp [hp])
          clear hw
          go_wp2
          ((try simp only [Exit.inBlock, Exit.then]); refine bodyPost_ret (results_none rfl _ _ _) rfl ?_)
          rw [pass_go (by rw [hok.len]; exact hlt) HGI.out]
          exact ⟨rfl, HCr.out, (StC.of_ext HX.out hB).trans (StC.of_ext HXr.out hB1)⟩
        · have hpI : ¬ ((c.lane k).pos : Int) < (l.length : Int) := by omega
          have HG2 := Lib.hid (show ∀ j, j < k + 1 → goesL l (c.lane j) = false from fun j hj => by
            by_cases e : j = k
            · rw [e]; unfold goesL; simp; omega
            · exact HG.out j (by omega))
          clear hw hp
          go_wp2
          go_roundw
          case rel => exact ⟨k + 1, by omega, by go_num, HG2, HXr.out⟩
          case measure => simp [intOf]; omega
    · obtain rfl : k = n := by omega
      have hnI : ¬ ((k : Int) < (k : Int)) := by omega
      have hCM : CM O wr B k z (freeTo c 0) := by rw [freeTo_zero]; exact HCr.out
      have hstx : StC O B w wr := (StC.of_ext HX.out hB).trans (StC.of_ext HXr.out hB1)
      have hNr := HNr.out
      clear hC
      rename_i wr1
      go_wp2
      go_loopw [5] (fun kv wx => ∃ i : Nat, i ≤ k ∧ kv = .int .i64 i ∧ CM O wx B k z (freeTo c i) ∧ StC O B w wx ∧ wx.heap[w.heap.size]? = some (.cells (boxC z k c.mem.length) 67 (0, 0))) (fun kv _ => k - (intOf kv).toNat)
      case atStart => exact ⟨0, Nat.zero_le _, rfl, hCM, hstx, hNr⟩
      case round =>
        clear hCM hstx b0' hNr
        obtain ⟨j, hj, rfl, hC, hst, hbx⟩ := hrel
        have c0 : wr.cell? ⟨w.heap.size, 0, none⟩ = some (.slice (some ⟨z.lb, 0, none⟩) k z.lc) := cell_of_heap hbx 0
        have hBx := Nat.le_trans hB hst.size
        by_cases hlt : j < k
        · have hjI : (j : Int) < (k : Int) := by omega
          have f3 := hC.free (j * 4 + 3)
          obtain ⟨-, -, -, e3⟩ := hC.cells hlt
          have hjl : j < c.ls.length := by rw [hok.len]; exact hlt
          have hput := CM.put hC hBx (k := j) (j := 3) (v := .bool false) (c' := freeTo c (j + 1)) hlt (by decide) (by rw [freeTo_lane hjl, if_pos (by omega)]; rfl)
            (fun q hq hne => by
              rw [freeTo_lane hjl, if_pos (by omega), freeTo_lane hjl, if_neg (by omega)]
              have : q = 0 ∨ q = 1 ∨ q = 2 := by omega
              rcases this with rfl | rfl | rfl <;> rfl)
            (fun q hq hne => by
              have hql : q < c.ls.length := by rw [hok.len]; exact hq
              rw [freeTo_lane hql, freeTo_lane hql]
              by_cases e : q < j
              · rw [if_pos e, if_pos (by omega)]
              · rw [if_neg e, if_neg (by omega)])
            (by rw [freeTo_lane hjl, if_pos (by omega), freeTo_lane hjl, if_neg (by omega)]) (by rw [freeTo_lane hjl, if_pos (by omega), freeTo_lane hjl, if_neg (by omega)]) rfl
          have HP := Lib.hid hput
          have HCB := Lib.hid (hput.2.byt _ _ _ (by decide) (by decide) hbx)
          have HST := Lib.hid (hst.trans hput.2)
          clear hput hC hst hbx
          go_wp2
          go_roundw
          case rel => exact ⟨j + 1, by omega, by go_num, HP.out.1, HST.out, HCB.out⟩
          case measure => simp [intOf]; omega
        · obtain rfl : j = k := by omega
          have HC2 := Lib.hid hC
          have HST := Lib.hid hst
          clear hC hst hbx
          go_wp2
          go_end0
          have e : freeTo c j = passC l c := by
            have hl : c.ls.length = j := hok.len
            rw [← freeTo_all (l := l) (fun q hq => HG.out q (by rw [← hl]; exact hq)), hl]
          have hC3 := HC2.out
          rw [e] at hC3
          exact ⟨rfl, hC3, HST.out⟩

end Go.Proofs.YtelbfeidpcojmaaGreat
