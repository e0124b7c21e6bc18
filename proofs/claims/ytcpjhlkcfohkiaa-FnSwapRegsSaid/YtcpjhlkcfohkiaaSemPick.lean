/- Programs with picks do the same: plain Lean, no program in sight. -/
import Derived.Test.YtcpjhlkcfohkiaaSem
namespace Go.Proofs.Ytcpjhlkcfohkiaa
set_option linter.unusedVariables false
set_option linter.unusedSimpArgs false

theorem execTo_later (x : Cd) (m : Nat) (s : LS) (j : Nat) : ∀ k, k ≤ j → (execTo x m s k).regs.getD j [] = s.regs.getD j []
  | 0, _ => rfl
  | k + 1, h => by
    have ih := execTo_later x m s j k (by omega)
    simp only [execTo]
    split
    · rw [← ih]
      simp [exec1, List.getD_eq_getElem?_getD, List.getElem?_set_ne (show k ≠ j by omega)]
    · exact ih
theorem set_self {α : Type} (l : List (List α)) (k : Nat) : l.set k (l.getD k []) = l := by
  apply List.ext_getElem?
  intro j
  rw [List.getElem?_set]
  by_cases e : k = j
  · subst e
    rw [if_pos rfl]
    by_cases h : k < l.length
    · rw [if_pos h, List.getD_eq_getElem?_getD, List.getElem?_eq_getElem h]; rfl
    · rw [if_neg h, List.getElem?_eq_none (by omega)]
  · rw [if_neg e]
theorem pick_to {y : Cd} (hy : y.op = 5) (a : Int) {m : Nat} (hm : m < 2 ^ 8) (s : LS) : ∀ k, execTo ⟨7, y.a, y.b, a⟩ m s k = execTo y (onesOf m a s) s k
  | 0 => rfl
  | k + 1 => by
    have ih := pick_to hy a hm s k
    have hl := execTo_later y (onesOf m a s) s k k (Nat.le_refl _)
    have hb := onesOf_bit m a s k hm
    have hmem : memOp ⟨7, y.a, y.b, a⟩ = false := rfl
    have hmem2 : memOp y = false := by simp [memOp, hy]
    simp only [execTo, ih, hb]
    generalize execTo y (onesOf m a s) s k = t at *
    cases h1 : m.testBit k with
    | false => simp
    | true =>
      have hreg : s.reg k a = rg (t.regs.getD k []) a := by unfold LS.reg; rw [hl]
      rw [hreg]
      cases h2 : (rg (t.regs.getD k []) a == 0) with
      | true =>
        have : simp1 ⟨7, y.a, y.b, a⟩ k (t.regs.getD k []) t.mem = (t.regs.getD k [], t.mem) := by
          unfold simp1
          rw [show ((7 : Int) == 1) = false from rfl, show ((7 : Int) == 2) = false from rfl, show ((7 : Int) == 3) = false from rfl, show ((7 : Int) == 4) = false from rfl, show ((7 : Int) == 5) = false from rfl, show ((7 : Int) == 6) = false from rfl, show ((7 : Int) == 7) = true from rfl, h2]
          rfl
        simp only [exec1, this, hmem, set_self]
        simp
      | false =>
        have e1 : simp1 ⟨7, y.a, y.b, a⟩ k (t.regs.getD k []) t.mem = ((t.regs.getD k []).set y.a.toNat (rg (t.regs.getD k []) y.b), t.mem) := by
          unfold simp1
          rw [show ((7 : Int) == 1) = false from rfl, show ((7 : Int) == 2) = false from rfl, show ((7 : Int) == 3) = false from rfl, show ((7 : Int) == 4) = false from rfl, show ((7 : Int) == 5) = false from rfl, show ((7 : Int) == 6) = false from rfl, show ((7 : Int) == 7) = true from rfl, h2]
          rfl
        have e2 : simp1 y k (t.regs.getD k []) t.mem = ((t.regs.getD k []).set y.a.toNat (rg (t.regs.getD k []) y.b), t.mem) := by simp [simp1, hy]
        simp only [exec1, e1, e2, hmem, hmem2]
        simp
theorem pick_exec {y : Cd} (hy : y.op = 5) (a : Int) {m : Nat} (hm : m < 2 ^ 8) (s : LS) : execM ⟨7, y.a, y.b, a⟩ m s = execM y (onesOf m a s) s := by
  have e1 : ((7 : Int) == 10) = false := rfl
  have e2 : (y.op == 10) = false := by rw [hy]; rfl
  unfold execM
  rw [exec_to, exec_to, pick_to hy a hm]
  simp [e1, e2]
theorem execM_zero {y : Cd} (hy : y.op ≠ 10) (s : LS) : execM y 0 s = s := by
  have e2 : (y.op == 10) = false := beq_eq_false_iff_ne.2 hy
  have e3 : lanesOf 0 = [] := rfl
  unfold execM
  simp [e2, e3]

/-- A block of one copy. -/
def mvOf : Blk → Option Cd
  | .op x .nil => if x.op == 5 then some x else none
  | _ => none
theorem mvOf_some {t : Blk} {y : Cd} (h : mvOf t = some y) : t = .op y .nil ∧ y.op = 5 := by
  unfold mvOf at h
  split at h
  · split at h
    · rename_i h5
      injection h with h
      subst h
      exact ⟨rfl, beq_iff_eq.1 h5⟩
    · cases h
  · cases h
def Blk.picks : Blk → Blk
  | .nil => .nil
  | .op x r => .op x r.picks
  | .iff a t r => match mvOf t with
    | some y => .op ⟨7, y.a, y.b, a⟩ r.picks
    | none => .iff a t.picks r.picks
  | .ife a t e r => .ife a t.picks e.picks r.picks
  | .loop a b t r => .loop a b t.picks r.picks
theorem picks_nil {b : Blk} (h : b.picks = .nil) : b = .nil := by
  cases b with
  | nil => rfl
  | op x r => simp [Blk.picks] at h
  | iff a t r => simp only [Blk.picks] at h; split at h <;> simp at h
  | ife a t e r => simp [Blk.picks] at h
  | loop a b t r => simp [Blk.picks] at h
theorem mvOf_picks (t : Blk) (h : mvOf t = none) : mvOf t.picks = none := by
  cases hm : mvOf t.picks with
  | none => rfl
  | some y =>
    obtain ⟨e, h5⟩ := mvOf_some hm
    exfalso
    cases t with
    | nil => simp [Blk.picks] at e
    | op x r =>
      simp only [Blk.picks, Blk.op.injEq] at e
      have hr := picks_nil e.2
      rw [hr, e.1] at h
      simp [mvOf, h5] at h
    | iff a t r =>
      simp only [Blk.picks] at e
      split at e
      · injection e with e _
        rw [← e] at h5
        simp at h5
      · simp at e
    | ife a t e r => simp [Blk.picks] at e
    | loop a b t r => simp [Blk.picks] at e
theorem picks_twice (b : Blk) : b.picks.picks = b.picks := by
  induction b with
  | nil => rfl
  | op x r ih => simp [Blk.picks, ih]
  | iff a t r iht ihr =>
    simp only [Blk.picks]
    split
    · simp [Blk.picks, ihr]
    · rename_i h
      simp [Blk.picks, mvOf_picks t h, iht, ihr]
  | ife a t e r iht ihe ihr => simp [Blk.picks, iht, ihe, ihr]
  | loop a c t r iht ihr => simp [Blk.picks, iht, ihr]
theorem picks_ok (b : Blk) : ∀ d, b.ok d → b.picks.ok d := by
  induction b with
  | nil => intro d h; exact h
  | op x r ih => intro d ⟨h1, h2, h3, h4⟩; exact ⟨h1, h2, h3, ih d h4⟩
  | iff a t r iht ihr =>
    intro d ⟨h1, h2, h3, h4⟩
    simp only [Blk.picks]
    split
    · rename_i y hy
      obtain ⟨rfl, h5⟩ := mvOf_some hy
      obtain ⟨hv, _⟩ := h3
      refine ⟨?_, by simp, by simp, ihr d h4⟩
      have ha := cvOk_a hv
      have hb := cvOk_b2 hv (by simp [h5])
      simp [cvOk, inR, ha, hb, h1]
    · exact ⟨h1, h2, iht _ h3, ihr d h4⟩
  | ife a t e r iht ihe ihr => intro d ⟨h1, h2, h3, h4, h5⟩; exact ⟨h1, h2, iht _ h3, ihe _ h4, ihr d h5⟩
  | loop a c t r iht ihr => intro d ⟨h1, h2, h3, h4, h5⟩; exact ⟨h1, h2, h3, iht _ h4, ihr d h5⟩

/-- Equal states, and the same barriers. -/
def barr (ev : List (Cd × Nat)) : List (Cd × Nat) := ev.filter fun q => q.1.op == 10
def SameB (g h : GS) : Prop := g.s = h.s ∧ barr g.ev = barr h.ev
theorem SameB.on {g h : GS} (k : SameB g h) (x y : Cd) (m : Nat) (hx : x.op ≠ 10) (hy : y.op ≠ 10) : SameB (g.on x m) (h.on y m) := by
  refine ⟨k.1, ?_⟩
  have e1 : (x.op == 10) = false := beq_eq_false_iff_ne.2 hx
  have e2 : (y.op == 10) = false := beq_eq_false_iff_ne.2 hy
  simp only [GS.on, barr, List.filter_append, List.filter_cons, e1, e2]
  simpa [barr] using k.2
theorem SameB.turns {f f' : Nat → GS → GS} (hf : ∀ m g h, m < 2 ^ 8 → SameB g h → SameB (f m g) (f' m h)) (a : Int) : ∀ (b m : Nat) (g h : GS), m < 2 ^ 8 → SameB g h → SameB (turnsG f a b m g) (turnsG f' a b m h)
  | 0, _, _, _, _, k => k
  | b + 1, m, g, h, hm, k => by
    simp only [turnsG]
    rw [← k.1]
    have hlt := onesOf_lt hm (by omega) a g.s
    exact SameB.turns hf a b _ _ _ hlt (hf _ _ _ hlt k)
theorem picks_go (b : Blk) : ∀ (d m : Nat) (g h : GS), b.ok d → m < 2 ^ 8 → SameB g h → SameB (b.go m g) (b.picks.go m h) := by
  induction b with
  | nil => intro d m g h _ _ k; exact k
  | op x r ih =>
    intro d m g h ⟨_, _, _, hr⟩ hm k
    simp only [Blk.picks, Blk.go]
    split
    · exact k
    · refine ih d _ _ _ hr hm ⟨by rw [k.1], ?_⟩
      have := k.2
      simp only [barr] at this
      simp only [barr, List.filter_append, this]
  | iff a t r iht ihr =>
    intro d m g h ⟨_, _, ht, hr⟩ hm k
    simp only [Blk.picks]
    split
    · rename_i y hy
      obtain ⟨rfl, h5⟩ := mvOf_some hy
      simp only [Blk.go]
      split
      · exact k
      · refine ihr d _ _ _ hr hm ?_
        rw [pick_exec h5 a hm, ← k.1]
        split
        · rename_i h0
          rw [h0, execM_zero (by omega)]
          have := k.on (cIf a) ⟨7, y.a, y.b, a⟩ m (by simp [cIf]) (by simp)
          exact ⟨this.1.trans k.1.symm ▸ rfl, this.2⟩
        · have := k.on (cIf a) ⟨7, y.a, y.b, a⟩ m (by simp [cIf]) (by simp)
          refine ⟨rfl, ?_⟩
          have e5 : (y.op == 10) = false := by rw [h5]; rfl
          have e7 := this.2
          simp only [GS.on] at e7
          simp only [GS.on, barr, List.filter_append, List.filter_cons, e5] at e7 ⊢
          simpa [barr] using e7
    · simp only [Blk.go]
      split
      · exact k
      · refine ihr d _ _ _ hr hm ?_
        rw [← k.1]
        exact iht _ _ _ _ ht (onesOf_lt hm (by omega) a g.s) (k.on _ _ _ (by simp [cIf]) (by simp [cIf]))
  | ife a t e r iht ihe ihr =>
    intro d m g h ⟨_, _, ht, he, hr⟩ hm k
    simp only [Blk.picks, Blk.go]
    split
    · exact k
    · refine ihr d _ _ _ hr hm ?_
      rw [← k.1]
      exact ihe _ _ _ _ he (mdiff_lt hm) (iht _ _ _ _ ht (onesOf_lt hm (by omega) a g.s) (k.on _ _ _ (by simp [cIf]) (by simp [cIf])))
  | loop a c t r iht ihr =>
    intro d m g h ⟨_, _, _, ht, hr⟩ hm k
    simp only [Blk.picks, Blk.go]
    split
    · exact k
    · refine ihr d _ _ _ hr hm ?_
      exact SameB.turns (f := fun m g => t.go m g) (f' := fun m g => t.picks.go m g) (fun m g h hm k => iht _ _ _ _ ht hm k) a _ _ _ _ hm (k.on _ _ _ (by simp [cLoop]) (by simp [cLoop]))

/-! ### The list of a tree with picks -/
theorem picked_keep {x : Cd} {l : List Cd} (h : ∀ y z r, l = y :: z :: r → ¬(x.op = 11 ∧ y.op = 5 ∧ z.op = 14)) : picked (x :: l) = x :: picked l := by
  match l, h with
  | [], _ => rfl
  | [y], _ => rfl
  | y :: z :: r, h =>
    have := h y z r rfl
    have e : (x.op == 11 && y.op == 5 && z.op == 14) = false := by
      simp only [Bool.and_eq_false_iff, beq_eq_false_iff_ne]
      by_cases h1 : x.op = 11 <;> by_cases h2 : y.op = 5 <;> by_cases h3 : z.op = 14 <;> simp_all
    simp [picked, e]
theorem flat_head (b : Blk) (d : Nat) (h : b.ok d) (hb : b ≠ .nil) : ∃ x q, b.flat = x :: q ∧ x.op ≠ 14 := by
  cases b with
  | nil => exact absurd rfl hb
  | op x r => obtain ⟨_, _, h3, _⟩ := h; exact ⟨x, _, rfl, by omega⟩
  | iff a t r => exact ⟨_, _, rfl, by simp [cIf]⟩
  | ife a t e r => exact ⟨_, _, rfl, by simp [cIf]⟩
  | loop a c t r => exact ⟨_, _, rfl, by simp [cLoop]⟩
/-- An if is kept unless its block is one copy and its end. -/
theorem picked_if {a : Int} {t : Blk} {d : Nat} {e : Cd} {q : List Cd} (ht : t.ok d) (he : e.op = 14 ∨ e.op = 12) (h : mvOf t = none ∨ e.op = 12) : picked (cIf a :: (t.flat ++ e :: q)) = cIf a :: picked (t.flat ++ e :: q) := by
  refine picked_keep fun y z r hl ⟨_, h5, h14⟩ => ?_
  cases t with
  | nil =>
    simp only [Blk.flat, List.nil_append, List.cons.injEq] at hl
    rw [← hl.1] at h5
    omega
  | op x q' =>
    obtain ⟨_, _, _, hq⟩ := ht
    simp only [Blk.flat, List.cons_append, List.cons.injEq] at hl
    by_cases hn : q' = .nil
    · subst hn
      simp only [Blk.flat, List.nil_append, List.cons.injEq] at hl
      rcases h with h | h
      · simp [mvOf, hl.1, h5] at h
      · rw [hl.2.1] at h; omega
    · obtain ⟨x2, q2, e2, h2⟩ := flat_head q' _ hq hn
      rw [e2] at hl
      simp only [List.cons_append, List.cons.injEq] at hl
      rw [hl.2.1] at h2
      exact h2 h14
  | iff a' t' q' => simp only [Blk.flat, List.cons_append, List.cons.injEq] at hl; rw [← hl.1] at h5; simp [cIf] at h5
  | ife a' t' e' q' => simp only [Blk.flat, List.cons_append, List.cons.injEq] at hl; rw [← hl.1] at h5; simp [cIf] at h5
  | loop a' c' t' q' => simp only [Blk.flat, List.cons_append, List.cons.injEq] at hl; rw [← hl.1] at h5; simp [cLoop] at h5
theorem picked_other {x : Cd} (h : x.op ≠ 11) (l : List Cd) : picked (x :: l) = x :: picked l := picked_keep fun _ _ _ _ hh => h hh.1
theorem flat_picks (b : Blk) : ∀ (d : Nat) (rest : List Cd), b.ok d → picked (b.flat ++ rest) = b.picks.flat ++ picked rest := by
  induction b with
  | nil => intro d rest _; rfl
  | op x r ih =>
    intro d rest ⟨_, _, h10, hr⟩
    simp only [Blk.flat, Blk.picks, List.cons_append]
    rw [picked_other (by omega), ih d rest hr]
  | iff a t r iht ihr =>
    intro d rest ⟨_, _, ht, hr⟩
    simp only [Blk.picks]
    split
    · rename_i y hy
      obtain ⟨rfl, h5⟩ := mvOf_some hy
      simp only [Blk.flat, List.cons_append, List.nil_append]
      rw [← ihr d rest hr]
      simp [picked, cIf, cEnd, h5]
    · rename_i hy
      simp only [Blk.flat, List.cons_append, List.append_assoc]
      rw [picked_if ht (.inl rfl) (.inl hy), iht _ _ ht, picked_other (by simp [cEnd]), ihr d rest hr]
  | ife a t e r iht ihe ihr =>
    intro d rest ⟨_, _, ht, he, hr⟩
    simp only [Blk.picks, Blk.flat, List.cons_append, List.append_assoc]
    rw [picked_if ht (.inr rfl) (.inr rfl), iht _ _ ht, picked_other (by simp [cElse]), ihe _ _ he, picked_other (by simp [cEnd]), ihr d rest hr]
  | loop a c t r iht ihr =>
    intro d rest ⟨_, _, _, ht, hr⟩
    simp only [Blk.picks, Blk.flat, List.cons_append, List.append_assoc]
    rw [picked_other (by simp [cLoop]), iht _ _ ht, picked_other (by simp [cEnd]), ihr d rest hr]
theorem picked_len_n : ∀ (n : Nat) (l : List Cd), l.length ≤ n → (picked l).length ≤ l.length
  | 0, l, h => by rw [List.eq_nil_of_length_eq_zero (Nat.le_zero.1 h)]; simp [picked]
  | n + 1, [], h => by simp [picked]
  | n + 1, [x], h => by simp [picked]
  | n + 1, [x, y], h => by simp [picked]
  | n + 1, x :: y :: z :: r, h => by
    simp only [List.length_cons] at h
    simp only [picked]
    split
    · have := picked_len_n n r (by omega); simp; omega
    · have := picked_len_n n (y :: z :: r) (by simp; omega); simp only [List.length_cons] at this ⊢; omega
theorem tree_picked {l : List Cd} (h : pv l = true) : (treeOf l).picks.ok 3 ∧ (treeOf l).picks.flat = picked l ∧ pv (picked l) = true := by
  obtain ⟨h1, h2⟩ := treeOf_spec h
  have e : (treeOf l).picks.flat = picked l := by
    have := flat_picks (treeOf l) 3 [] h1
    rw [List.append_nil, h2] at this
    rw [this]; simp [picked]
  have hl := (pv_iff.1 h).1
  have hp := picked_len_n _ l (Nat.le_refl _)
  exact ⟨picks_ok _ _ h1, e, pv_tree.2 ⟨by omega, _, picks_ok _ _ h1, e⟩⟩
theorem picked_picked {l : List Cd} (h : pv l = true) : picked (picked l) = picked l := by
  obtain ⟨h1, h2, h3⟩ := tree_picked h
  have := flat_picks (treeOf l).picks 3 [] h1
  rw [List.append_nil, h2, picks_twice, h2] at this
  rw [this]; simp [picked]

/-! ### How many places -/
theorem pickB_next {l : List Cd} {k : Nat} (h : pickB l k = true) : pickB l (k + 1) = false ∧ pickB l (k + 2) = false := by
  simp only [pickB, Bool.and_eq_true, beq_iff_eq] at h
  simp [pickB, h.1.2, h.2]
theorem picked_count (l : List Cd) : ∀ (n k : Nat), l.length - k = n → k ≤ l.length → (picked (l.drop k)).length + 2 * ((picksFrom l l.length).length - (picksFrom l k).length) = n ∧ (picksFrom l k).length ≤ (picksFrom l l.length).length := by
  intro n
  induction n using Nat.strongRecOn with
  | ind n ih =>
  intro k hn hk
  by_cases hlt : k < l.length
  · cases hp : pickB l k with
    | false =>
      have h1 := ih (n - 1) (by omega) (k + 1) (by omega) (by omega)
      rw [picksFrom_succ, hp] at h1
      simp only [Bool.false_eq_true, if_false, List.append_nil] at h1
      rw [picked_no hp hlt ⟨0, 0, 0, 0⟩]
      simp only [List.length_cons]
      omega
    | true =>
      obtain ⟨x, y, z, r, hd, e1, e2, e3, hl⟩ := pickB_true hp
      obtain ⟨n1, n2⟩ := pickB_next hp
      have h1 := ih (n - 3) (by omega) (k + 3) (by omega) (by omega)
      rw [show k + 3 = k + 2 + 1 by omega, picksFrom_succ, n2, picksFrom_succ, n1, picksFrom_succ, hp] at h1
      simp only [Bool.false_eq_true, if_false, List.append_nil, if_true, List.length_append, List.length_singleton] at h1
      have hd3 : l.drop (k + 2 + 1) = r := by
        have := drop_skip (m := [x, y, z]) (r := r) (by rw [hd]; rfl)
        simpa using this
      rw [hd3] at h1
      have hpk : picked (l.drop k) = ⟨7, y.a, y.b, x.a⟩ :: picked r := by rw [hd]; simp [picked, e1, e2, e3]
      rw [hpk]
      simp only [List.length_cons]
      omega
  · obtain rfl : k = l.length := by omega
    simp [picked]
    omega
theorem picked_length (l : List Cd) : (picked l).length + 2 * (picksFrom l l.length).length = l.length := by
  have := (picked_count l l.length 0 (by omega) (Nat.zero_le _)).1
  simpa [picksFrom] using this
theorem picks_none {l : List Cd} (h : pv l = true) : picksFrom (picked l) (picked l).length = [] := by
  have h1 := picked_length (picked l)
  rw [picked_picked h] at h1
  exact List.eq_nil_of_length_eq_zero (by omega)

/-! ### Runs -/
theorem splitB_ev (l : List Cd) (n : Nat) (bs : List (Nat × Nat)) (hb : ∀ q ∈ bs, q.1 < l.length) : splitB l n bs = (barr (evOf l bs)).any fun q => !(q.2 == 2 ^ n - 1) := by
  induction bs with
  | nil => rfl
  | cons q bs ih =>
    have ih := ih (fun q hq => hb q (List.mem_cons_of_mem _ hq))
    have e : opAt l q.1 = (cdAt l q.1).op := by
      have := hb q (List.mem_cons_self)
      simp [opAt, cdAt, List.getElem?_eq_getElem this]
    simp only [splitB, List.any_cons] at ih ⊢
    simp only [evOf, List.map_cons, barr, List.filter_cons] at ih ⊢
    rw [ih, e]
    cases (cdAt l q.1).op == 10 <;> simp
/-- What is the same for two programs that go alike. -/
theorem alike_of {l l' : List Cd} (h : pv l = true) (h' : pv l' = true) {n : Nat} (hn : 1 ≤ n ∧ n ≤ 8) {m : List Int} (hm : memOk m = true) (k : SameB (goS l n m) (goS l' n m)) :
    (lockS l n m).mem = (lockS l' n m).mem ∧ (lockS l n m).regs = (lockS l' n m).regs ∧ (lockS l n m).accs = (lockS l' n m).accs ∧ splitB l n (lockS l n m).beats = splitB l' n (lockS l' n m).beats := by
  rw [goS_eq h, goS_eq h'] at k
  obtain ⟨k1, k2⟩ := k
  replace k1 : nb (lockS l n m) = nb (lockS l' n m) := k1
  have kin : ∀ {l : List Cd}, pv l = true → ∀ q ∈ (lockS l n m).beats, q.1 < l.length := by
    intro l h q hq
    have hok : lockOk l n m = true := by
      have : inR (n : Int) 1 8 = true := inR_iff.2 (by omega)
      simp [lockOk, h, hm, this]
    have := trace_in (l := l) (n := n) (m := m) q (by unfold traceOf; rw [if_pos hok]; simpa using hq)
    exact this.1
  refine ⟨?_, ?_, ?_, ?_⟩
  · have := congrArg LS.mem k1; exact this
  · have := congrArg LS.regs k1; exact this
  · have := congrArg LS.accs k1; exact this
  · rw [splitB_ev _ _ _ (kin h), splitB_ev _ _ _ (kin h')]
    show (barr (GS.of l (lockS l n m)).ev).any _ = (barr (GS.of l' (lockS l' n m)).ev).any _
    rw [k2]
theorem picks_run {l : List Cd} (h : pv l = true) {n : Nat} (hn : n ≤ 8) (m : List Int) : SameB (goS l n m) (goS (picked l) n m) := by
  obtain ⟨h1, h2⟩ := treeOf_spec h
  obtain ⟨h3, h4, h5⟩ := tree_picked h
  rw [goS_tree h3 h4 h5]
  refine picks_go _ 3 _ _ _ h1 ?_ ⟨rfl, rfl⟩
  have : 2 ^ n ≤ 2 ^ 8 := Nat.pow_le_pow_right (by decide) hn
  have : 0 < 2 ^ n := Nat.pow_pos (by decide)
  omega
end Go.Proofs.Ytcpjhlkcfohkiaa
