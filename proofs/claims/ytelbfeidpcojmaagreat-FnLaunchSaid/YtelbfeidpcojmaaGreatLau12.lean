/- Part 12 of what the claim needs. -/
import Derived.Test.YtelbfeidpcojmaaGreatLau1
import Derived.Test.YtelbfeidpcojmaaGreatLau4
import Derived.Test.YtelbfeidpcojmaaGreatLau5
import Derived.Test.YtelbfeidpcojmaaGreatLau7
import Derived.Test.YtelbfeidpcojmaaGreatLau10
import Derived.Test.YtelbfeidpcojmaaGreatLau11
namespace Go.Proofs.YtelbfeidpcojmaaGreat
open Go.RowKit
set_option linter.unusedVariables false
set_option linter.unusedSimpArgs false

/-- A state (its steps are left empty), and the instructions that have been executed, with their masks. -/
structure GS where
  s : LS
  ev : List (Cd × Nat)
def GS.on (x : Cd) (m : Nat) (g : GS) : GS := ⟨g.s, g.ev ++ [(x, m)]⟩
def turnsG (f : Nat → GS → GS) (a : Int) : Nat → Nat → GS → GS
  | 0, _, g => g
  | n + 1, m, g => turnsG f a n (onesOf m a g.s) (f (onesOf m a g.s) g)
def Blk.go : Blk → Nat → GS → GS
  | .nil, _, g => g
  | .op x r, m, g => if m = 0 then g else r.go m ⟨execM x m g.s, g.ev ++ [(x, m)]⟩
  | .iff a t r, m, g => if m = 0 then g else r.go m (t.go (onesOf m a g.s) (g.on (cIf a) m))
  | .ife a t e r, m, g => if m = 0 then g else r.go m (e.go (mdiff m (onesOf m a g.s)) (t.go (onesOf m a g.s) (g.on (cIf a) m)))
  | .loop a b t r, m, g => if m = 0 then g else r.go m (turnsG (fun m g => t.go m g) a b.toNat m (g.on (cLoop a b) m))
theorem go_zero (b : Blk) (g : GS) : b.go 0 g = g := by cases b <;> simp [Blk.go]

def nb (s : LS) : LS := { s with beats := [] }
theorem execTo_nb (x : Cd) (m : Nat) (s : LS) : ∀ k, execTo x m (nb s) k = nb (execTo x m s k)
  | 0 => rfl
  | k + 1 => by
    simp only [execTo, execTo_nb x m s k]
    split <;> rfl
theorem execM_nb (x : Cd) (m : Nat) (s : LS) : execM x m (nb s) = nb (execM x m s) := by
  unfold execM
  rw [exec_to, exec_to, execTo_nb]
  dsimp only
  split <;> rfl
theorem nb_beat (p m : Nat) (s : LS) : nb (beat p m s) = nb s := rfl
def evOf (l : List Cd) (bs : List (Nat × Nat)) : List (Cd × Nat) := bs.map fun q => (cdAt l q.1, q.2)
theorem evOf_snoc (l : List Cd) (bs : List (Nat × Nat)) (p m : Nat) : evOf l (bs ++ [(p, m)]) = evOf l bs ++ [(cdAt l p, m)] := by simp [evOf]
/-- A state without places. -/
def GS.of (l : List Cd) (s : LS) : GS := ⟨nb s, evOf l s.beats⟩
theorem of_beat (l : List Cd) (p m : Nat) (s : LS) : GS.of l (beat p m s) = (GS.of l s).on (cdAt l p) m := by
  simp only [GS.of, GS.on, nb_beat]
  show GS.mk _ (evOf l (s.beats ++ [(p, m)])) = _
  rw [evOf_snoc]
theorem turns_go {f : Nat → LS → LS} {h : Nat → GS → GS} {l : List Cd} (hf : ∀ m s, GS.of l (f m s) = h m (GS.of l s)) (a : Int) : ∀ (b m : Nat) (s : LS), GS.of l (turnsOf f a b m s) = turnsG h a b m (GS.of l s)
  | 0, _, _ => rfl
  | b + 1, m, s => by
    simp only [turnsOf, turnsG]
    rw [turns_go hf a b, hf]
    rfl
theorem run_go {l : List Cd} (b : Blk) : ∀ (d p m : Nat) (rest : List Cd) (s : LS), b.ok d → l.drop p = b.flat ++ rest → GS.of l (b.run p m s) = b.go m (GS.of l s) := by
  induction b with
  | nil => intro d p m rest s _ _; rfl
  | op x r ih =>
    intro d p m rest s ⟨_, _, _, hr⟩ h
    obtain ⟨h1, h2, _⟩ := drop_cons h
    simp only [Blk.run, Blk.go]
    split
    · rfl
    · rw [ih d (p + 1) m rest _ hr h2]
      congr 1
      show GS.mk _ _ = _
      rw [← execM_nb, execM_beats, nb_beat]
      show GS.mk _ (evOf l (s.beats ++ [(p, m)])) = _
      rw [evOf_snoc, cdAt_get h1]
      rfl
  | iff a t r iht ihr =>
    intro d p m rest s ⟨_, _, ht, hr⟩ h
    have h' : l.drop p = cIf a :: (t.flat ++ cEnd :: (r.flat ++ rest)) := by rw [h]; simp [Blk.flat]
    obtain ⟨_, h2, h3⟩ := end_iff ht h'
    simp only [Blk.run, Blk.go]
    split
    · rfl
    · rw [ihr d _ m rest _ hr h3, iht _ _ _ _ _ ht h2, of_beat, cdAt_get (drop_cons h').1]
      rfl
  | ife a t e r iht ihe ihr =>
    intro d p m rest s ⟨_, _, ht, he, hr⟩ h
    have h' : l.drop p = cIf a :: (t.flat ++ cElse :: (e.flat ++ cEnd :: (r.flat ++ rest))) := by rw [h]; simp [Blk.flat]
    obtain ⟨_, h2, h3, h4⟩ := end_ife ht he h'
    simp only [Blk.run, Blk.go]
    split
    · rfl
    · rw [ihr d _ m rest _ hr h4, ihe _ _ _ _ _ he h3, iht _ _ _ _ _ ht h2, of_beat, cdAt_get (drop_cons h').1]
      rfl
  | loop a c t r iht ihr =>
    intro d p m rest s ⟨_, _, _, ht, hr⟩ h
    have h' : l.drop p = cLoop a c :: (t.flat ++ cEnd :: (r.flat ++ rest)) := by rw [h]; simp [Blk.flat]
    obtain ⟨_, h2, h3⟩ := end_iff ht h'
    simp only [Blk.run, Blk.go]
    split
    · rfl
    · rw [ihr d _ m rest _ hr h3, turns_go (h := fun m g => t.go m g) (fun m s => iht _ _ m _ s ht h2), of_beat, cdAt_get (drop_cons h').1]

/-- A run of a valid program, without places. -/
noncomputable def goS (l : List Cd) (n : Nat) (m : List Int) : GS := (treeOf l).go (2 ^ n - 1) ⟨LS.start n m, []⟩
theorem goS_eq {l : List Cd} (h : pv l = true) (n : Nat) (m : List Int) : goS l n m = GS.of l (lockS l n m) := by
  obtain ⟨h1, h2⟩ := treeOf_spec h
  unfold goS lockS runT
  rw [run_go (treeOf l) 3 0 _ [] _ h1 (by simp [h2])]
  rfl

/-! ### A program has one tree -/
def stop (r : List Cd) : Prop := ∀ x q, r = x :: q → x.op = 14 ∨ x.op = 12
theorem flat_inj (b : Blk) : ∀ (d d' : Nat) (b' : Blk) (r r' : List Cd), b.ok d → b'.ok d' → stop r → stop r' → b.flat ++ r = b'.flat ++ r' → b = b' ∧ r = r' := by
  induction b with
  | nil =>
    intro d d' b' r r' _ hb' hs _ h
    cases b' with
    | nil => exact ⟨rfl, h⟩
    | op x q => have := hs _ _ h; obtain ⟨_, _, h10, _⟩ := hb'; omega
    | iff a t q => have := hs _ _ h; simp [cIf] at this
    | ife a t e q => have := hs _ _ h; simp [cIf] at this
    | loop a c t q => have := hs _ _ h; simp [cLoop] at this
  | op x q ih =>
    intro d d' b' r r' hb hb' hs hs' h
    obtain ⟨_, _, h10, hq⟩ := hb
    cases b' with
    | nil => have := hs' _ _ h.symm; omega
    | op y q' =>
      simp only [Blk.flat, List.cons_append, List.cons.injEq] at h
      obtain ⟨e1, e2⟩ := ih _ _ _ _ _ hq hb'.2.2.2 hs hs' h.2
      exact ⟨by rw [h.1, e1], e2⟩
    | iff a t q' => simp only [Blk.flat, List.cons_append, List.cons.injEq] at h; rw [h.1] at h10; simp [cIf] at h10
    | ife a t e q' => simp only [Blk.flat, List.cons_append, List.cons.injEq] at h; rw [h.1] at h10; simp [cIf] at h10
    | loop a c t q' => simp only [Blk.flat, List.cons_append, List.cons.injEq] at h; rw [h.1] at h10; simp [cLoop] at h10
  | iff a t q iht ihq =>
    intro d d' b' r r' hb hb' hs hs' h
    obtain ⟨_, _, ht, hq⟩ := hb
    have s1 : ∀ q : List Cd, stop (cEnd :: q) := fun q x p e => by injection e with e; rw [← e]; exact .inl rfl
    have s2 : ∀ q : List Cd, stop (cElse :: q) := fun q x p e => by injection e with e; rw [← e]; exact .inr rfl
    cases b' with
    | nil => have := hs' _ _ h.symm; simp [cIf] at this
    | op y q' => obtain ⟨_, _, h10, _⟩ := hb'; simp only [Blk.flat, List.cons_append, List.cons.injEq] at h; rw [← h.1] at h10; simp [cIf] at h10
    | iff a' t' q' =>
      obtain ⟨_, _, ht', hq'⟩ := hb'
      simp only [Blk.flat, List.cons_append, List.cons.injEq, List.append_assoc] at h
      obtain ⟨e1, e2⟩ := iht _ _ _ _ _ ht ht' (s1 _) (s1 _) h.2
      injection e2 with _ e2
      obtain ⟨e3, e4⟩ := ihq _ _ _ _ _ hq hq' hs hs' e2
      have e5 : a = a' := by have := congrArg Cd.a h.1; exact this
      exact ⟨by rw [e1, e3, e5], e4⟩
    | ife a' t' e' q' =>
      obtain ⟨_, _, ht', _, _⟩ := hb'
      simp only [Blk.flat, List.cons_append, List.cons.injEq, List.append_assoc] at h
      obtain ⟨_, e2⟩ := iht _ _ _ _ _ ht ht' (s1 _) (s2 _) h.2
      injection e2 with e2 _
      have := congrArg Cd.op e2
      simp [cEnd, cElse] at this
    | loop a' c t' q' => simp only [Blk.flat, List.cons_append, List.cons.injEq] at h; have := congrArg Cd.op h.1; simp [cLoop, cIf] at this
  | ife a t e q iht ihe ihq =>
    intro d d' b' r r' hb hb' hs hs' h
    obtain ⟨_, _, ht, he, hq⟩ := hb
    have s1 : ∀ q : List Cd, stop (cEnd :: q) := fun q x p e => by injection e with e; rw [← e]; exact .inl rfl
    have s2 : ∀ q : List Cd, stop (cElse :: q) := fun q x p e => by injection e with e; rw [← e]; exact .inr rfl
    cases b' with
    | nil => have := hs' _ _ h.symm; simp [cIf] at this
    | op y q' => obtain ⟨_, _, h10, _⟩ := hb'; simp only [Blk.flat, List.cons_append, List.cons.injEq] at h; rw [← h.1] at h10; simp [cIf] at h10
    | iff a' t' q' =>
      obtain ⟨_, _, ht', hq'⟩ := hb'
      simp only [Blk.flat, List.cons_append, List.cons.injEq, List.append_assoc] at h
      obtain ⟨_, e2⟩ := iht _ _ _ _ _ ht ht' (s2 _) (s1 _) h.2
      injection e2 with e2 _
      have := congrArg Cd.op e2
      simp [cEnd, cElse] at this
    | ife a' t' e' q' =>
      obtain ⟨_, _, ht', he', hq'⟩ := hb'
      simp only [Blk.flat, List.cons_append, List.cons.injEq, List.append_assoc] at h
      obtain ⟨e1, e2⟩ := iht _ _ _ _ _ ht ht' (s2 _) (s2 _) h.2
      injection e2 with _ e2
      obtain ⟨e3, e4⟩ := ihe _ _ _ _ _ he he' (s1 _) (s1 _) e2
      injection e4 with _ e4
      obtain ⟨e5, e6⟩ := ihq _ _ _ _ _ hq hq' hs hs' e4
      have e7 : a = a' := by have := congrArg Cd.a h.1; exact this
      exact ⟨by rw [e1, e3, e5, e7], e6⟩
    | loop a' c t' q' => simp only [Blk.flat, List.cons_append, List.cons.injEq] at h; have := congrArg Cd.op h.1; simp [cLoop, cIf] at this
  | loop a c t q iht ihq =>
    intro d d' b' r r' hb hb' hs hs' h
    obtain ⟨_, _, _, ht, hq⟩ := hb
    have s1 : ∀ q : List Cd, stop (cEnd :: q) := fun q x p e => by injection e with e; rw [← e]; exact .inl rfl
    cases b' with
    | nil => have := hs' _ _ h.symm; simp [cLoop] at this
    | op y q' => obtain ⟨_, _, h10, _⟩ := hb'; simp only [Blk.flat, List.cons_append, List.cons.injEq] at h; rw [← h.1] at h10; simp [cLoop] at h10
    | iff a' t' q' => simp only [Blk.flat, List.cons_append, List.cons.injEq] at h; have := congrArg Cd.op h.1; simp [cLoop, cIf] at this
    | ife a' t' e' q' => simp only [Blk.flat, List.cons_append, List.cons.injEq] at h; have := congrArg Cd.op h.1; simp [cLoop, cIf] at this
    | loop a' c' t' q' =>
      obtain ⟨_, _, _, ht', hq'⟩ := hb'
      simp only [Blk.flat, List.cons_append, List.cons.injEq, List.append_assoc] at h
      obtain ⟨e1, e2⟩ := iht _ _ _ _ _ ht ht' (s1 _) (s1 _) h.2
      injection e2 with _ e2
      obtain ⟨e3, e4⟩ := ihq _ _ _ _ _ hq hq' hs hs' e2
      have e5 : a = a' := by have := congrArg Cd.a h.1; exact this
      have e6 : c = c' := by have := congrArg Cd.b h.1; exact this
      exact ⟨by rw [e1, e3, e5, e6], e4⟩
theorem treeOf_eq {b : Blk} {l : List Cd} (hb : b.ok 3) (hl : b.flat = l) (h : pv l = true) : treeOf l = b := by
  obtain ⟨h1, h2⟩ := treeOf_spec h
  have s0 : stop [] := fun x q e => by cases e
  exact (flat_inj (treeOf l) 3 3 b [] [] h1 hb s0 s0 (by rw [h2, hl])).1
theorem goS_tree {b : Blk} {l : List Cd} (hb : b.ok 3) (hl : b.flat = l) (h : pv l = true) (n : Nat) (m : List Int) : goS l n m = b.go (2 ^ n - 1) ⟨LS.start n m, []⟩ := by
  unfold goS
  rw [treeOf_eq hb hl h]

/-! ### What goes behind a tree -/

theorem execTo_later (x : Cd) (m : Nat) (s : LS) (j : Nat) : ∀ k, k ≤ j → (execTo x m s k).regs.getD j [] = s.regs.getD j []
  | 0, _ => rfl
  | k + 1, h => by
    have ih := execTo_later x m s j k (by omega)
    simp only [execTo]
    split
    · rw [← ih]
      simp [exec1, List.getD_eq_getElem?_getD, List.getElem?_set_ne (show k ≠ j by omega)]
    · exact ih
theorem set_self {α : Type} (l : List (List α)) (k : Nat) : l.set k (l.getD k []) = l := by
  apply List.ext_getElem?
  intro j
  rw [List.getElem?_set]
  by_cases e : k = j
  · subst e
    rw [if_pos rfl]
    by_cases h : k < l.length
    · rw [if_pos h, List.getD_eq_getElem?_getD, List.getElem?_eq_getElem h]; rfl
    · rw [if_neg h, List.getElem?_eq_none (by omega)]
  · rw [if_neg e]
theorem pick_to {y : Cd} (hy : y.op = 5) (a : Int) {m : Nat} (hm : m < 2 ^ 8) (s : LS) : ∀ k, execTo ⟨7, y.a, y.b, a⟩ m s k = execTo y (onesOf m a s) s k
  | 0 => rfl
  | k + 1 => by
    have ih := pick_to hy a hm s k
    have hl := execTo_later y (onesOf m a s) s k k (Nat.le_refl _)
    have hb := onesOf_bit m a s k hm
    have hmem : memOp ⟨7, y.a, y.b, a⟩ = false := rfl
    have hmem2 : memOp y = false := by simp [memOp, hy]
    simp only [execTo, ih, hb]
    generalize execTo y (onesOf m a s) s k = t at *
    cases h1 : m.testBit k with
    | false => simp
    | true =>
      have hreg : s.reg k a = rg (t.regs.getD k []) a := by unfold LS.reg; rw [hl]
      rw [hreg]
      cases h2 : (rg (t.regs.getD k []) a == 0) with
      | true =>
        have : simp1 ⟨7, y.a, y.b, a⟩ k (t.regs.getD k []) t.mem = (t.regs.getD k [], t.mem) := by
          unfold simp1
          rw [show ((7 : Int) == 1) = false from rfl, show ((7 : Int) == 2) = false from rfl, show ((7 : Int) == 3) = false from rfl, show ((7 : Int) == 4) = false from rfl, show ((7 : Int) == 5) = false from rfl, show ((7 : Int) == 6) = false from rfl, show ((7 : Int) == 7) = true from rfl, h2]
          rfl
        simp only [exec1, this, hmem, set_self]
        simp
      | false =>
        have e1 : simp1 ⟨7, y.a, y.b, a⟩ k (t.regs.getD k []) t.mem = ((t.regs.getD k []).set y.a.toNat (rg (t.regs.getD k []) y.b), t.mem) := by
          unfold simp1
          rw [show ((7 : Int) == 1) = false from rfl, show ((7 : Int) == 2) = false from rfl, show ((7 : Int) == 3) = false from rfl, show ((7 : Int) == 4) = false from rfl, show ((7 : Int) == 5) = false from rfl, show ((7 : Int) == 6) = false from rfl, show ((7 : Int) == 7) = true from rfl, h2]
          rfl
        have e2 : simp1 y k (t.regs.getD k []) t.mem = ((t.regs.getD k []).set y.a.toNat (rg (t.regs.getD k []) y.b), t.mem) := by simp [simp1, hy]
        simp only [exec1, e1, e2, hmem, hmem2]
        simp
theorem pick_exec {y : Cd} (hy : y.op = 5) (a : Int) {m : Nat} (hm : m < 2 ^ 8) (s : LS) : execM ⟨7, y.a, y.b, a⟩ m s = execM y (onesOf m a s) s := by
  have e1 : ((7 : Int) == 10) = false := rfl
  have e2 : (y.op == 10) = false := by rw [hy]; rfl
  unfold execM
  rw [exec_to, exec_to, pick_to hy a hm]
  simp [e1, e2]
theorem execM_zero {y : Cd} (hy : y.op ≠ 10) (s : LS) : execM y 0 s = s := by
  have e2 : (y.op == 10) = false := beq_eq_false_iff_ne.2 hy
  have e3 : lanesOf 0 = [] := rfl
  unfold execM
  simp [e2, e3]

/-- A block of one copy. -/
def mvOf : Blk → Option Cd
  | .op x .nil => if x.op == 5 then some x else none
  | _ => none
theorem mvOf_some {t : Blk} {y : Cd} (h : mvOf t = some y) : t = .op y .nil ∧ y.op = 5 := by
  unfold mvOf at h
  split at h
  · split at h
    · rename_i h5
      injection h with h
      subst h
      exact ⟨rfl, beq_iff_eq.1 h5⟩
    · cases h
  · cases h
def Blk.picks : Blk → Blk
  | .nil => .nil
  | .op x r => .op x r.picks
  | .iff a t r => match mvOf t with
    | some y => .op ⟨7, y.a, y.b, a⟩ r.picks
    | none => .iff a t.picks r.picks
  | .ife a t e r => .ife a t.picks e.picks r.picks
  | .loop a b t r => .loop a b t.picks r.picks
theorem picks_ok (b : Blk) : ∀ d, b.ok d → b.picks.ok d := by
  induction b with
  | nil => intro d h; exact h
  | op x r ih => intro d ⟨h1, h2, h3, h4⟩; exact ⟨h1, h2, h3, ih d h4⟩
  | iff a t r iht ihr =>
    intro d ⟨h1, h2, h3, h4⟩
    simp only [Blk.picks]
    split
    · rename_i y hy
      obtain ⟨rfl, h5⟩ := mvOf_some hy
      obtain ⟨hv, _⟩ := h3
      refine ⟨?_, by simp, by simp, ihr d h4⟩
      have ha := cvOk_a hv
      have hb := cvOk_b2 hv (by simp [h5])
      simp [cvOk, inR, ha, hb, h1]
    · exact ⟨h1, h2, iht _ h3, ihr d h4⟩
  | ife a t e r iht ihe ihr => intro d ⟨h1, h2, h3, h4, h5⟩; exact ⟨h1, h2, iht _ h3, ihe _ h4, ihr d h5⟩
  | loop a c t r iht ihr => intro d ⟨h1, h2, h3, h4, h5⟩; exact ⟨h1, h2, h3, iht _ h4, ihr d h5⟩

/-- Equal states, and the same barriers. -/
def barr (ev : List (Cd × Nat)) : List (Cd × Nat) := ev.filter fun q => q.1.op == 10
def SameB (g h : GS) : Prop := g.s = h.s ∧ barr g.ev = barr h.ev
theorem SameB.on {g h : GS} (k : SameB g h) (x y : Cd) (m : Nat) (hx : x.op ≠ 10) (hy : y.op ≠ 10) : SameB (g.on x m) (h.on y m) := by
  refine ⟨k.1, ?_⟩
  have e1 : (x.op == 10) = false := beq_eq_false_iff_ne.2 hx
  have e2 : (y.op == 10) = false := beq_eq_false_iff_ne.2 hy
  simp only [GS.on, barr, List.filter_append, List.filter_cons, e1, e2]
  simpa [barr] using k.2
theorem SameB.turns {f f' : Nat → GS → GS} (hf : ∀ m g h, m < 2 ^ 8 → SameB g h → SameB (f m g) (f' m h)) (a : Int) : ∀ (b m : Nat) (g h : GS), m < 2 ^ 8 → SameB g h → SameB (turnsG f a b m g) (turnsG f' a b m h)
  | 0, _, _, _, _, k => k
  | b + 1, m, g, h, hm, k => by
    simp only [turnsG]
    rw [← k.1]
    have hlt := onesOf_lt hm (by omega) a g.s
    exact SameB.turns hf a b _ _ _ hlt (hf _ _ _ hlt k)

/-! ### The list of a tree with picks -/
theorem picked_keep {x : Cd} {l : List Cd} (h : ∀ y z r, l = y :: z :: r → ¬(x.op = 11 ∧ y.op = 5 ∧ z.op = 14)) : picked (x :: l) = x :: picked l := by
  match l, h with
  | [], _ => rfl
  | [y], _ => rfl
  | y :: z :: r, h =>
    have := h y z r rfl
    have e : (x.op == 11 && y.op == 5 && z.op == 14) = false := by
      simp only [Bool.and_eq_false_iff, beq_eq_false_iff_ne]
      by_cases h1 : x.op = 11 <;> by_cases h2 : y.op = 5 <;> by_cases h3 : z.op = 14 <;> simp_all
    simp [picked, e]
theorem flat_head (b : Blk) (d : Nat) (h : b.ok d) (hb : b ≠ .nil) : ∃ x q, b.flat = x :: q ∧ x.op ≠ 14 := by
  cases b with
  | nil => exact absurd rfl hb
  | op x r => obtain ⟨_, _, h3, _⟩ := h; exact ⟨x, _, rfl, by omega⟩
  | iff a t r => exact ⟨_, _, rfl, by simp [cIf]⟩
  | ife a t e r => exact ⟨_, _, rfl, by simp [cIf]⟩
  | loop a c t r => exact ⟨_, _, rfl, by simp [cLoop]⟩
/-- An if is kept unless its block is one copy and its end. -/
theorem picked_if {a : Int} {t : Blk} {d : Nat} {e : Cd} {q : List Cd} (ht : t.ok d) (he : e.op = 14 ∨ e.op = 12) (h : mvOf t = none ∨ e.op = 12) : picked (cIf a :: (t.flat ++ e :: q)) = cIf a :: picked (t.flat ++ e :: q) := by
  refine picked_keep fun y z r hl ⟨_, h5, h14⟩ => ?_
  cases t with
  | nil =>
    simp only [Blk.flat, List.nil_append, List.cons.injEq] at hl
    rw [← hl.1] at h5
    omega
  | op x q' =>
    obtain ⟨_, _, _, hq⟩ := ht
    simp only [Blk.flat, List.cons_append, List.cons.injEq] at hl
    by_cases hn : q' = .nil
    · subst hn
      simp only [Blk.flat, List.nil_append, List.cons.injEq] at hl
      rcases h with h | h
      · simp [mvOf, hl.1, h5] at h
      · rw [hl.2.1] at h; omega
    · obtain ⟨x2, q2, e2, h2⟩ := flat_head q' _ hq hn
      rw [e2] at hl
      simp only [List.cons_append, List.cons.injEq] at hl
      rw [hl.2.1] at h2
      exact h2 h14
  | iff a' t' q' => simp only [Blk.flat, List.cons_append, List.cons.injEq] at hl; rw [← hl.1] at h5; simp [cIf] at h5
  | ife a' t' e' q' => simp only [Blk.flat, List.cons_append, List.cons.injEq] at hl; rw [← hl.1] at h5; simp [cIf] at h5
  | loop a' c' t' q' => simp only [Blk.flat, List.cons_append, List.cons.injEq] at hl; rw [← hl.1] at h5; simp [cLoop] at h5
theorem picked_other {x : Cd} (h : x.op ≠ 11) (l : List Cd) : picked (x :: l) = x :: picked l := picked_keep fun _ _ _ _ hh => h hh.1
theorem flat_picks (b : Blk) : ∀ (d : Nat) (rest : List Cd), b.ok d → picked (b.flat ++ rest) = b.picks.flat ++ picked rest := by
  induction b with
  | nil => intro d rest _; rfl
  | op x r ih =>
    intro d rest ⟨_, _, h10, hr⟩
    simp only [Blk.flat, Blk.picks, List.cons_append]
    rw [picked_other (by omega), ih d rest hr]
  | iff a t r iht ihr =>
    intro d rest ⟨_, _, ht, hr⟩
    simp only [Blk.picks]
    split
    · rename_i y hy
      obtain ⟨rfl, h5⟩ := mvOf_some hy
      simp only [Blk.flat, List.cons_append, List.nil_append]
      rw [← ihr d rest hr]
      simp [picked, cIf, cEnd, h5]
    · rename_i hy
      simp only [Blk.flat, List.cons_append, List.append_assoc]
      rw [picked_if ht (.inl rfl) (.inl hy), iht _ _ ht, picked_other (by simp [cEnd]), ihr d rest hr]
  | ife a t e r iht ihe ihr =>
    intro d rest ⟨_, _, ht, he, hr⟩
    simp only [Blk.picks, Blk.flat, List.cons_append, List.append_assoc]
    rw [picked_if ht (.inr rfl) (.inr rfl), iht _ _ ht, picked_other (by simp [cElse]), ihe _ _ he, picked_other (by simp [cEnd]), ihr d rest hr]
  | loop a c t r iht ihr =>
    intro d rest ⟨_, _, _, ht, hr⟩
    simp only [Blk.picks, Blk.flat, List.cons_append, List.append_assoc]
    rw [picked_other (by simp [cLoop]), iht _ _ ht, picked_other (by simp [cEnd]), ihr d rest hr]
theorem picked_len_n : ∀ (n : Nat) (l : List Cd), l.length ≤ n → (picked l).length ≤ l.length
  | 0, l, h => by rw [List.eq_nil_of_length_eq_zero (Nat.le_zero.1 h)]; simp [picked]
  | n + 1, [], h => by simp [picked]
  | n + 1, [x], h => by simp [picked]
  | n + 1, [x, y], h => by simp [picked]
  | n + 1, x :: y :: z :: r, h => by
    simp only [List.length_cons] at h
    simp only [picked]
    split
    · have := picked_len_n n r (by omega); simp; omega
    · have := picked_len_n n (y :: z :: r) (by simp; omega); simp only [List.length_cons] at this ⊢; omega
theorem tree_picked {l : List Cd} (h : pv l = true) : (treeOf l).picks.ok 3 ∧ (treeOf l).picks.flat = picked l ∧ pv (picked l) = true := by
  obtain ⟨h1, h2⟩ := treeOf_spec h
  have e : (treeOf l).picks.flat = picked l := by
    have := flat_picks (treeOf l) 3 [] h1
    rw [List.append_nil, h2] at this
    rw [this]; simp [picked]
  have hl := (pv_iff.1 h).1
  have hp := picked_len_n _ l (Nat.le_refl _)
  exact ⟨picks_ok _ _ h1, e, pv_tree.2 ⟨by omega, _, picks_ok _ _ h1, e⟩⟩

/-! ### How many places -/
theorem pickB_next {l : List Cd} {k : Nat} (h : pickB l k = true) : pickB l (k + 1) = false ∧ pickB l (k + 2) = false := by
  simp only [pickB, Bool.and_eq_true, beq_iff_eq] at h
  simp [pickB, h.1.2, h.2]
theorem picked_count (l : List Cd) : ∀ (n k : Nat), l.length - k = n → k ≤ l.length → (picked (l.drop k)).length + 2 * ((picksFrom l l.length).length - (picksFrom l k).length) = n ∧ (picksFrom l k).length ≤ (picksFrom l l.length).length := by
  intro n
  induction n using Nat.strongRecOn with
  | ind n ih =>
  intro k hn hk
  by_cases hlt : k < l.length
  · cases hp : pickB l k with
    | false =>
      have h1 := ih (n - 1) (by omega) (k + 1) (by omega) (by omega)
      rw [picksFrom_succ, hp] at h1
      simp only [Bool.false_eq_true, if_false, List.append_nil] at h1
      rw [picked_no hp hlt ⟨0, 0, 0, 0⟩]
      simp only [List.length_cons]
      omega
    | true =>
      obtain ⟨x, y, z, r, hd, e1, e2, e3, hl⟩ := pickB_true hp
      obtain ⟨n1, n2⟩ := pickB_next hp
      have h1 := ih (n - 3) (by omega) (k + 3) (by omega) (by omega)
      rw [show k + 3 = k + 2 + 1 by omega, picksFrom_succ, n2, picksFrom_succ, n1, picksFrom_succ, hp] at h1
      simp only [Bool.false_eq_true, if_false, List.append_nil, if_true, List.length_append, List.length_singleton] at h1
      have hd3 : l.drop (k + 2 + 1) = r := by
        have := drop_skip (m := [x, y, z]) (r := r) (by rw [hd]; rfl)
        simpa using this
      rw [hd3] at h1
      have hpk : picked (l.drop k) = ⟨7, y.a, y.b, x.a⟩ :: picked r := by rw [hd]; simp [picked, e1, e2, e3]
      rw [hpk]
      simp only [List.length_cons]
      omega
  · obtain rfl : k = l.length := by omega
    simp [picked]
    omega
theorem picked_length (l : List Cd) : (picked l).length + 2 * (picksFrom l l.length).length = l.length := by
  have := (picked_count l l.length 0 (by omega) (Nat.zero_le _)).1
  simpa [picksFrom] using this

/-! ### Runs -/
theorem splitB_ev (l : List Cd) (n : Nat) (bs : List (Nat × Nat)) (hb : ∀ q ∈ bs, q.1 < l.length) : splitB l n bs = (barr (evOf l bs)).any fun q => !(q.2 == 2 ^ n - 1) := by
  induction bs with
  | nil => rfl
  | cons q bs ih =>
    have ih := ih (fun q hq => hb q (List.mem_cons_of_mem _ hq))
    have e : opAt l q.1 = (cdAt l q.1).op := by
      have := hb q (List.mem_cons_self)
      simp [opAt, cdAt, List.getElem?_eq_getElem this]
    simp only [splitB, List.any_cons] at ih ⊢
    simp only [evOf, List.map_cons, barr, List.filter_cons] at ih ⊢
    rw [ih, e]
    cases (cdAt l q.1).op == 10 <;> simp

def PR : List Int → List Int → Prop
  | [], [] => True
  | m :: s, m' :: s' => (m = m' ∨ (m = 13 ∧ m' = 11)) ∧ PR s s'
  | _, _ => False
theorem PR.refl : ∀ s, PR s s
  | [] => trivial
  | _ :: s => ⟨.inl rfl, PR.refl s⟩
theorem PR.len : ∀ {s s' : List Int}, PR s s' → s.length = s'.length
  | [], [], _ => rfl
  | _ :: s, _ :: s', h => by simp [PR.len h.2]
  | [], _ :: _, h => h.elim
  | _ :: _, [], h => h.elim
theorem SameB.refl (g : GS) : SameB g g := ⟨rfl, rfl⟩
theorem SameB.trans {f g h : GS} (a : SameB f g) (b : SameB g h) : SameB f h := ⟨a.1.trans b.1, a.2.trans b.2⟩

theorem goS_tree' {b : Blk} {l : List Cd} {d : Nat} (hb : b.ok d) (hl : b.flat = l) (h : pv l = true) (n : Nat) (m : List Int) : goS l n m = b.go (2 ^ n - 1) ⟨LS.start n m, []⟩ := by
  obtain ⟨h1, h2⟩ := treeOf_spec h
  have s0 : stop [] := fun x q e => by cases e
  unfold goS
  rw [(flat_inj (treeOf l) 3 d b [] [] h1 hb s0 s0 (by rw [h2, hl])).1]
theorem mask_lt {n : Nat} (hn : n ≤ 8) : 2 ^ n - 1 < 2 ^ 8 := by
  have : 2 ^ n ≤ 2 ^ 8 := Nat.pow_le_pow_right (by decide) hn
  have : 0 < 2 ^ n := Nat.pow_pos (by decide)
  omega

/-! ### How many loops -/

/-- New names for the four registers. -/
structure Names (f : Int → Int) : Prop where
  bd : ∀ r, 0 ≤ r → r ≤ 3 → 0 ≤ f r ∧ f r ≤ 3
  inj : ∀ r q, 0 ≤ r → r ≤ 3 → 0 ≤ q → q ≤ 3 → f r = f q → r = q
/-- The registers of a lane under other names. -/
def RR (f : Int → Int) (r r' : List Int) : Prop := r.length = 4 ∧ r'.length = 4 ∧ ∀ i, 0 ≤ i → i ≤ 3 → rg r' (f i) = rg r i
theorem rg_set (r : List Int) (a i v : Int) (hr : r.length = 4) (ha : 0 ≤ a ∧ a ≤ 3) (hi : 0 ≤ i ∧ i ≤ 3) : rg (r.set a.toNat v) i = if i = a then v else rg r i := by
  unfold rg
  rw [List.getD_eq_getElem?_getD, List.getD_eq_getElem?_getD, List.getElem?_set]
  by_cases e : i = a
  · subst e
    rw [if_pos rfl, if_pos (by omega), if_pos rfl]
    rfl
  · rw [if_neg (by omega), if_neg e]
theorem RR.set {f : Int → Int} (hf : Names f) {r r' : List Int} (h : RR f r r') {a : Int} (ha : 0 ≤ a ∧ a ≤ 3) (v : Int) : RR f (r.set a.toNat v) (r'.set (f a).toNat v) := by
  obtain ⟨h1, h2, h3⟩ := h
  refine ⟨by simp [h1], by simp [h2], fun i i0 i3 => ?_⟩
  rw [rg_set r' (f a) (f i) v h2 (hf.bd a ha.1 ha.2) (hf.bd i i0 i3), rg_set r a i v h1 ha ⟨i0, i3⟩, h3 i i0 i3]
  by_cases e : i = a
  · subst e; simp
  · rw [if_neg e, if_neg (fun h => e (hf.inj i a i0 i3 ha.1 ha.2 h))]
theorem ren_op (f : Int → Int) (x : Cd) : (ren f x).op = x.op := by
  unfold ren
  repeat' split
  all_goals rfl
theorem ren_simp1 {f : Int → Int} (hf : Names f) {x : Cd} (hv : cvOk x = true) (h10 : x.op ≤ 10) (id : Nat) {r r' m : List Int} (h : RR f r r') :
    RR f (simp1 x id r m).1 (simp1 (ren f x) id r' m).1 ∧ (simp1 (ren f x) id r' m).2 = (simp1 x id r m).2 ∧ (memOp x = true → rg r' (ren f x).b = rg r x.b) := by
  have ha := cvOk_a hv
  have hc := cvOk_c hv
  have hb2 := cvOk_b2 hv
  have g := h.2.2
  have S := fun v => h.set hf ha v
  have ho := op14' hv h10
  obtain ⟨o, a, b, c⟩ := x
  simp only at ha hc hb2 ho S
  have ga := g a ha.1 ha.2
  have gc := g c hc.1 hc.2
  rcases ho with rfl | rfl | rfl | rfl | rfl | rfl | rfl | rfl | rfl | rfl
  · exact ⟨S b, rfl, by simp [memOp]⟩
  · exact ⟨S id, rfl, by simp [memOp]⟩
  · have gb := g b (hb2 (by omega)).1 (hb2 (by omega)).2
    refine ⟨?_, rfl, by simp [memOp]⟩
    show RR f (r.set a.toNat _) (r'.set (f a).toNat ((rg r' (f a) + rg r' (f b)) % 256))
    rw [ga, gb]; exact S _
  · have gb := g b (hb2 (by omega)).1 (hb2 (by omega)).2
    refine ⟨?_, rfl, by simp [memOp]⟩
    show RR f (r.set a.toNat _) (r'.set (f a).toNat (rg r' (f a) * rg r' (f b) % 256))
    rw [ga, gb]; exact S _
  · have gb := g b (hb2 (by omega)).1 (hb2 (by omega)).2
    refine ⟨?_, rfl, by simp [memOp]⟩
    show RR f (r.set a.toNat _) (r'.set (f a).toNat (rg r' (f b)))
    rw [gb]; exact S _
  · have gb := g b (hb2 (by omega)).1 (hb2 (by omega)).2
    refine ⟨?_, rfl, by simp [memOp]⟩
    show RR f (r.set a.toNat _) (r'.set (f a).toNat (lessI (rg r' (f b)) (rg r' (f c))))
    rw [gb, gc]; exact S _
  · have gb := g b (hb2 (by omega)).1 (hb2 (by omega)).2
    refine ⟨?_, rfl, by simp [memOp]⟩
    show RR f (if rg r c == 0 then r else r.set a.toNat (rg r b)) (if rg r' (f c) == 0 then r' else r'.set (f a).toNat (rg r' (f b)))
    rw [gb, gc]
    cases rg r c == 0
    · exact S _
    · exact h
  · have gb := g b (hb2 (by omega)).1 (hb2 (by omega)).2
    refine ⟨?_, rfl, fun _ => gb⟩
    show RR f (r.set a.toNat _) (r'.set (f a).toNat (m.getD (rg r' (f b) % m.length).toNat 0))
    rw [gb]; exact S _
  · have gb := g b (hb2 (by omega)).1 (hb2 (by omega)).2
    refine ⟨h, ?_, fun _ => gb⟩
    show m.set (rg r' (f b) % m.length).toNat (rg r' (f a)) = m.set (rg r b % m.length).toNat (rg r a)
    rw [ga, gb]
  · exact ⟨h, rfl, by simp [memOp]⟩

/-- States that differ in the names of the registers. -/
structure RS (f : Int → Int) (n : Nat) (s t : LS) : Prop where
  ls : s.regs.length = n
  lt : t.regs.length = n
  rr : ∀ k, k < n → RR f (s.regs.getD k []) (t.regs.getD k [])
  mem : t.mem = s.mem
  beats : t.beats = s.beats
  accs : t.accs = s.accs
  phase : t.phase = s.phase
theorem getD_set_list {l : List (List Int)} {k j : Nat} (v : List Int) (hk : k < l.length) : (l.set k v).getD j [] = if j = k then v else l.getD j [] := by
  rw [List.getD_eq_getElem?_getD, List.getD_eq_getElem?_getD, List.getElem?_set]
  by_cases e : j = k
  · subst e; rw [if_pos rfl, if_pos hk, if_pos rfl]; rfl
  · rw [if_neg (fun h => e h.symm), if_neg e]
theorem RS.beat {f : Int → Int} {n : Nat} {s t : LS} (h : RS f n s t) (p m : Nat) : RS f n (beat p m s) (beat p m t) :=
  ⟨h.ls, h.lt, h.rr, h.mem, by show t.beats ++ _ = s.beats ++ _; rw [h.beats], h.accs, h.phase⟩
theorem RS.exec1 {f : Int → Int} (hf : Names f) {n : Nat} {s t : LS} (h : RS f n s t) {x : Cd} (hv : cvOk x = true) (h10 : x.op ≤ 10) {k : Nat} (hk : k < n) : RS f n (exec1 x s k) (exec1 (ren f x) t k) := by
  obtain ⟨e1, e2, e3⟩ := ren_simp1 hf hv h10 k (m := s.mem) (h.rr k hk)
  refine ⟨by simp [Proofs.YtelbfeidpcojmaaGreat.exec1, h.ls], by simp [Proofs.YtelbfeidpcojmaaGreat.exec1, h.lt], fun j hj => ?_, ?_, h.beats, ?_, h.phase⟩
  · simp only [Proofs.YtelbfeidpcojmaaGreat.exec1, h.mem]
    rw [getD_set_list _ (by rw [h.ls]; exact hk), getD_set_list _ (by rw [h.lt]; exact hk)]
    by_cases e : j = k
    · rw [if_pos e, if_pos e]; exact e1
    · rw [if_neg e, if_neg e]; exact h.rr j hj
  · simp only [Proofs.YtelbfeidpcojmaaGreat.exec1, h.mem]; exact e2
  · have em : memOp (ren f x) = memOp x := by simp [memOp, ren_op]
    simp only [Proofs.YtelbfeidpcojmaaGreat.exec1, em, h.accs, h.phase, h.mem, ren_op]
    cases hm : memOp x with
    | false => rfl
    | true =>
      have := e3 hm
      simp only [LS.reg, this, if_true]
theorem RS.execTo {f : Int → Int} (hf : Names f) {n : Nat} {s t : LS} (h : RS f n s t) {x : Cd} (hv : cvOk x = true) (h10 : x.op ≤ 10) (m : Nat) : ∀ k, k ≤ n → RS f n (execTo x m s k) (execTo (ren f x) m t k)
  | 0, _ => h
  | k + 1, hk => by
    have ih := RS.execTo hf h hv h10 m k (by omega)
    simp only [Proofs.YtelbfeidpcojmaaGreat.execTo]
    split
    · exact ih.exec1 hf hv h10 (by omega)
    · exact ih
theorem RS.execM {f : Int → Int} (hf : Names f) {n : Nat} (n8 : n ≤ 8) {s t : LS} (h : RS f n s t) {x : Cd} (hv : cvOk x = true) (h10 : x.op ≤ 10) {m : Nat} (hm : m < 2 ^ n) : RS f n (execM x m s) (execM (ren f x) m t) := by
  rw [execM_eq hm n8, execM_eq hm n8, ren_op]
  have := h.execTo hf hv h10 m n (Nat.le_refl _)
  split
  · exact ⟨this.ls, this.lt, this.rr, this.mem, this.beats, this.accs, by simp [this.phase]⟩
  · exact this
theorem RS.ones {f : Int → Int} {n : Nat} {s t : LS} (h : RS f n s t) {a : Int} (ha : 0 ≤ a ∧ a ≤ 3) {m : Nat} (hm : m < 2 ^ n) (n8 : n ≤ 8) : onesOf m (f a) t = onesOf m a s := by
  have m8 : m < 2 ^ 8 := Nat.lt_of_lt_of_le hm (Nat.pow_le_pow_right (by decide) n8)
  apply Nat.eq_of_testBit_eq
  intro i
  rw [onesOf_bit _ _ _ _ m8, onesOf_bit _ _ _ _ m8]
  by_cases hi : i < n
  · have := (h.rr i hi).2.2 a ha.1 ha.2
    simp only [LS.reg, this]
  · rw [testBit_high hm (by omega)]; rfl
/-- A tree under other names. -/
def Blk.ren (f : Int → Int) : Blk → Blk
  | .nil => .nil
  | .op x r => .op (Proofs.YtelbfeidpcojmaaGreat.ren f x) (r.ren f)
  | .iff a t r => .iff (f a) (t.ren f) (r.ren f)
  | .ife a t e r => .ife (f a) (t.ren f) (e.ren f) (r.ren f)
  | .loop a b t r => .loop (f a) b (t.ren f) (r.ren f)
theorem flat_ren (f : Int → Int) (b : Blk) : (b.ren f).flat = b.flat.map (ren f) := by
  induction b with
  | nil => rfl
  | op x r ih => simp [Blk.ren, Blk.flat, ih]
  | iff a t r iht ihr => simp [Blk.ren, Blk.flat, iht, ihr]; constructor <;> rfl
  | ife a t e r iht ihe ihr => simp [Blk.ren, Blk.flat, iht, ihe, ihr]; exact ⟨rfl, rfl, rfl⟩
  | loop a c t r iht ihr => simp [Blk.ren, Blk.flat, iht, ihr]; constructor <;> rfl
theorem cvOk_ren {f : Int → Int} (hf : Names f) {x : Cd} (hv : cvOk x = true) (h10 : x.op ≤ 10) : cvOk (ren f x) = true := by
  have ha := cvOk_a hv
  have hc := cvOk_c hv
  have hb2 := cvOk_b2 hv
  have ho := op14' hv h10
  obtain ⟨o, a, b, c⟩ := x
  simp only at ha hc hb2 ho
  have fa := hf.bd a ha.1 ha.2
  have fc := hf.bd c hc.1 hc.2
  rcases ho with rfl | rfl | rfl | rfl | rfl | rfl | rfl | rfl | rfl | rfl
  · simp [cvOk, inR] at hv; simp [cvOk, ren, regsN, inR, fa, hv]
  · simp [cvOk, inR] at hv; simp [cvOk, ren, regsN, inR, fa, hv]
  · have fb := hf.bd b (hb2 (by omega)).1 (hb2 (by omega)).2
    simp [cvOk, inR] at hv; simp [cvOk, ren, regsN, inR, fa, fb, hv]
  · have fb := hf.bd b (hb2 (by omega)).1 (hb2 (by omega)).2
    simp [cvOk, inR] at hv; simp [cvOk, ren, regsN, inR, fa, fb, hv]
  · have fb := hf.bd b (hb2 (by omega)).1 (hb2 (by omega)).2
    simp [cvOk, inR] at hv; simp [cvOk, ren, regsN, inR, fa, fb, hv]
  · have fb := hf.bd b (hb2 (by omega)).1 (hb2 (by omega)).2
    simp [cvOk, ren, regsN, inR, fa, fb, fc]
  · have fb := hf.bd b (hb2 (by omega)).1 (hb2 (by omega)).2
    simp [cvOk, ren, regsN, inR, fa, fb, fc]
  · have fb := hf.bd b (hb2 (by omega)).1 (hb2 (by omega)).2
    simp [cvOk, inR] at hv; simp [cvOk, ren, regsN, inR, fa, fb, hv]
  · have fb := hf.bd b (hb2 (by omega)).1 (hb2 (by omega)).2
    simp [cvOk, inR] at hv; simp [cvOk, ren, regsN, inR, fa, fb, hv]
  · simp [cvOk] at hv; simp [cvOk, ren, regsN, hv]
theorem ok_ren {f : Int → Int} (hf : Names f) (b : Blk) : ∀ d, b.ok d → (b.ren f).ok d := by
  induction b with
  | nil => intro d h; exact h
  | op x r ih => intro d ⟨h1, h2, h3, h4⟩; exact ⟨cvOk_ren hf h1 h3, by rw [ren_op]; exact h2, by rw [ren_op]; exact h3, ih d h4⟩
  | iff a t r iht ihr => intro d ⟨h1, h2, h3, h4⟩; exact ⟨hf.bd a h1.1 h1.2, h2, iht _ h3, ihr d h4⟩
  | ife a t e r iht ihe ihr => intro d ⟨h1, h2, h3, h4, h5⟩; exact ⟨hf.bd a h1.1 h1.2, h2, iht _ h3, ihe _ h4, ihr d h5⟩
  | loop a c t r iht ihr => intro d ⟨h1, h2, h3, h4, h5⟩; exact ⟨hf.bd a h1.1 h1.2, h2, h3, iht _ h4, ihr d h5⟩
theorem RS.turns {f : Int → Int} {n : Nat} (n8 : n ≤ 8) {h h' : Nat → LS → LS} (hf : ∀ m s t, m < 2 ^ n → RS f n s t → RS f n (h m s) (h' m t)) {a : Int} (ha : 0 ≤ a ∧ a ≤ 3) : ∀ (b m : Nat) (s t : LS), m < 2 ^ n → RS f n s t → RS f n (turnsOf h a b m s) (turnsOf h' (f a) b m t)
  | 0, _, _, _, _, k => k
  | b + 1, m, s, t, hm, k => by
    simp only [turnsOf]
    rw [k.ones ha hm n8]
    have hlt := onesOf_lt hm n8 a s
    exact RS.turns n8 hf ha b _ _ _ hlt (hf _ _ _ hlt k)
theorem ren_run {f : Int → Int} (hf : Names f) {n : Nat} (n8 : n ≤ 8) (b : Blk) : ∀ (d p m : Nat) (s t : LS), b.ok d → m < 2 ^ n → RS f n s t → RS f n (b.run p m s) ((b.ren f).run p m t) := by
  have hl : ∀ b : Blk, (b.ren f).flat.length = b.flat.length := fun b => by rw [flat_ren, List.length_map]
  induction b with
  | nil => intro d p m s t _ _ k; exact k
  | op x r ih =>
    intro d p m s t ⟨hv, _, h10, hr⟩ hm k
    simp only [Blk.ren, Blk.run]
    split
    · exact k
    · exact ih d _ _ _ _ hr hm ((k.beat p m).execM hf n8 hv h10 hm)
  | iff a t r iht ihr =>
    intro d p m s u ⟨ha, _, ht, hr⟩ hm k
    simp only [Blk.ren, Blk.run, hl]
    split
    · exact k
    · rw [k.ones ha hm n8]
      exact ihr d _ _ _ _ hr hm (iht _ _ _ _ _ ht (onesOf_lt hm n8 a s) (k.beat p m))
  | ife a t e r iht ihe ihr =>
    intro d p m s u ⟨ha, _, ht, he, hr⟩ hm k
    simp only [Blk.ren, Blk.run, hl]
    split
    · exact k
    · rw [k.ones ha hm n8]
      exact ihr d _ _ _ _ hr hm (ihe _ _ _ _ _ he (mdiff_lt hm) (iht _ _ _ _ _ ht (onesOf_lt hm n8 a s) (k.beat p m)))
  | loop a c t r iht ihr =>
    intro d p m s u ⟨ha, _, _, ht, hr⟩ hm k
    simp only [Blk.ren, Blk.run, hl]
    split
    · exact k
    · exact ihr d _ _ _ _ hr hm (RS.turns n8 (h := fun m s => t.run (p + 1) m s) (h' := fun m s => (t.ren f).run (p + 1) m s) (fun m s u hm k => iht _ _ _ _ _ ht hm k) ha _ _ _ _ hm (k.beat p m))

/-! ### Lists of names -/
theorem name4 : ∀ a b c d : Fin 4, nameOk [(a.val : Int), (b.val : Int), (c.val : Int), (d.val : Int)] = true → a ≠ b ∧ a ≠ c ∧ a ≠ d ∧ b ≠ c ∧ b ≠ d ∧ c ≠ d := by decide
theorem names_of {t : List Int} (h : nameOk t = true) : Names (nm t) := by
  obtain ⟨h1, h2⟩ := nameOk_all h
  match t, h1 with
  | [a, b, c, d], _ =>
    have ba := h2 a (by simp)
    have bb := h2 b (by simp)
    have bc := h2 c (by simp)
    have bd := h2 d (by simp)
    have k := name4 ⟨a.toNat, by omega⟩ ⟨b.toNat, by omega⟩ ⟨c.toNat, by omega⟩ ⟨d.toNat, by omega⟩ (by
      simp only [Int.toNat_of_nonneg ba.1, Int.toNat_of_nonneg bb.1, Int.toNat_of_nonneg bc.1, Int.toNat_of_nonneg bd.1]; exact h)
    simp only [ne_eq, Fin.mk.injEq] at k
    have e0 : nm [a, b, c, d] 0 = a := rfl
    have e1 : nm [a, b, c, d] 1 = b := rfl
    have e2 : nm [a, b, c, d] 2 = c := rfl
    have e3 : nm [a, b, c, d] 3 = d := rfl
    refine ⟨fun r r0 r3 => ?_, fun r q r0 r3 q0 q3 e => ?_⟩
    · have : r = 0 ∨ r = 1 ∨ r = 2 ∨ r = 3 := by omega
      rcases this with rfl | rfl | rfl | rfl <;> simp only [e0, e1, e2, e3] <;> assumption
    · have hr : r = 0 ∨ r = 1 ∨ r = 2 ∨ r = 3 := by omega
      have hq : q = 0 ∨ q = 1 ∨ q = 2 ∨ q = 3 := by omega
      rcases hr with rfl | rfl | rfl | rfl <;> rcases hq with rfl | rfl | rfl | rfl <;> simp only [e0, e1, e2, e3] at e <;> omega
theorem names_run {l : List Cd} {f : Int → Int} (hf : Names f) (h : pv l = true) : pv (l.map (ren f)) = true ∧ ∀ {n : Nat} (m : List Int), n ≤ 8 → RS f n (lockS l n m) (lockS (l.map (ren f)) n m) := by
  obtain ⟨h1, h2⟩ := treeOf_spec h
  have e : ((treeOf l).ren f).flat = l.map (ren f) := by rw [flat_ren, h2]
  have ok := ok_ren hf _ _ h1
  have hp : pv (l.map (ren f)) = true := pv_tree.2 ⟨by rw [List.length_map]; exact (pv_iff.1 h).1, _, ok, e⟩
  refine ⟨hp, fun {n} m n8 => ?_⟩
  have ht := treeOf_eq ok e hp
  unfold lockS runT
  rw [ht]
  refine ren_run hf n8 _ 3 _ _ _ _ h1 (by have : 0 < 2 ^ n := Nat.pow_pos (by decide); omega) ⟨by simp [LS.start], by simp [LS.start], fun k hk => ?_, rfl, rfl, rfl, rfl⟩
  have e2 : (LS.start n m).regs.getD k [] = [0, 0, 0, 0] := by simp [LS.start, List.getD_eq_getElem?_getD, hk]
  rw [e2]
  have z : ∀ i, 0 ≤ i → i ≤ 3 → rg [0, 0, 0, 0] i = 0 := fun i i0 i3 => by
    have : i = 0 ∨ i = 1 ∨ i = 2 ∨ i = 3 := by omega
    rcases this with rfl | rfl | rfl | rfl <;> rfl
  exact ⟨rfl, rfl, fun i i0 i3 => by rw [z i i0 i3, z _ (hf.bd i i0 i3).1 (hf.bd i i0 i3).2]⟩
/-- Barriers are split or not under any names. -/
theorem split_ren {f : Int → Int} (l : List Cd) (n : Nat) (bs : List (Nat × Nat)) : splitB (l.map (ren f)) n bs = splitB l n bs := by
  have : ∀ p, opAt (l.map (ren f)) p = opAt l p := fun p => by
    simp only [opAt, List.getElem?_map]
    cases l[p]? with
    | none => rfl
    | some x => exact ren_op f x
  simp only [splitB, this]
theorem packL_eq {l : List Cd} (hp : pv l = true) : packL l = l.map (ren (nm (packSt (usedOf l) 8).2)) := by
  have hok := packSt_ok ⟨usedOf l, usedOf_lt l⟩
  simp only at hok
  rw [← pack_same hp, renameL, hp, hok]
  rfl
theorem packL_ok {l : List Cd} (hp : pv l = true) : pv (packL l) = true := by
  rw [packL_eq hp]
  exact (names_run (names_of (packSt_ok ⟨usedOf l, usedOf_lt l⟩)) hp).1
theorem packL_run {l : List Cd} (hp : pv l = true) {n : Nat} (hn : n ≤ 8) (m : List Int) : (lockS (packL l) n m).mem = (lockS l n m).mem ∧ (lockS (packL l) n m).beats = (lockS l n m).beats ∧ (lockS (packL l) n m).accs = (lockS l n m).accs ∧ ∀ bs, splitB (packL l) n bs = splitB l n bs := by
  rw [packL_eq hp]
  have := (names_run (names_of (packSt_ok ⟨usedOf l, usedOf_lt l⟩)) hp).2 (n := n) m hn
  exact ⟨this.mem, this.beats, this.accs, fun bs => split_ren l n bs⟩



def RunP (w : World) (e : Ending) (w' : World) : Prop :=
  ∃ (l : List Cd) (A : Option Addr) (c : Nat) (n : Int) (m : List Int) (Am : Option Addr) (cm : Nat), e = .returned (.tuple #[.slice A l.length c, .int .i64 n, .slice Am m.length cm]) ∧ l.length ≤ 200000 ∧ m.length ≤ 40 ∧ (0 ≤ n ∧ n ≤ 9) ∧
    RdC w' w'.heap.size A l ∧ RdI w' w'.heap.size Am m ∧ Below w.heap.size w w'
theorem RunP.of {w w1 w2 : World} {B g K n c m cm : Nat} {lanes : Int} {A Am : Option Addr} (hB : Below w.heap.size w w1) (hg : w.heap.size ≤ g) (hn : n ≤ 200000) (hm : m ≤ 40) (h0 : 0 ≤ lanes) (h9 : lanes ≤ 9) (D : DSx w1 B g K A n c w2) {l : List Int} (hl : l.length = m) (hrd : RdI w2 w2.heap.size Am l) :
    RunP w (.returned (.tuple #[.slice A n c, .int .i64 lanes, .slice Am m cm])) w2 := by
  obtain ⟨x, h1, h2, h3, h4⟩ := D
  obtain rfl := OC.len h1
  subst hl
  exact ⟨x, A, c, lanes, l, Am, cm, rfl, hn, hm, ⟨h0, h9⟩, OC.rd h1, hrd, hB.grown h3 hB.size (fun k e => by cases e; exact hg)⟩

theorem runs_c (A Am : Option Addr) (c cm : Nat) (l : List Cd) (n : Int) (m : List Int) (w : World) (hA : RdC w w.heap.size A l) (hM : RdI w w.heap.size Am m) (hl : l.length ≤ 1000000000) (hml : m.length ≤ 1000000000) :
    Calls Tryz.prog 9 #[.slice A l.length c, .int .i64 n, .slice Am m.length cm] w fun e w' => e = .returned (.bool (lockOk l n m)) ∧ Below w.heap.size w w' := by
  have HK := Lib.hid (show lockOk l n m = (pv l && (inR n 1 8 && memOk m)) from rfl)
  have HS := Lib.hid (fun W h => sMemoryValid_c Am cm m W h hml)
  generalize lockOk l n m = ok at *
  generalize memOk m = mo at *
  go_enter Tryz.func9, Tryz.ntmps9
  go_wp2_with fail
  refine (sProgramValid_c A c l w hA hl).mono ?_
  rintro e w1 ⟨rfl, b1⟩
  generalize pv l = p at *
  cases p with
  | false =>
    go_wp2
    go_ret
    exact ⟨by rw [HK.out]; rfl, b1⟩
  | true =>
    by_cases hr : 1 ≤ n ∧ n ≤ 8
    · have e1 : inR n 1 8 = true := inR_iff.2 hr
      rw [e1] at HK
      obtain ⟨h1, h8⟩ := hr
      clear e1
      go_wp2_with fail
      refine (HS.out w1 ((hM.below b1).more b1.size)).mono ?_
      rintro e w2 ⟨rfl, rfl⟩
      go_wp2
      go_ret
      exact ⟨by rw [HK.out]; simp, b1⟩
    · have e1 : inR n 1 8 = false := inR_not.2 (by omega)
      rw [e1] at HK
      by_cases h1 : 1 ≤ n
      · have h8 : ¬ n ≤ 8 := by omega
        clear hr e1
        go_wp2
        go_ret
        exact ⟨by rw [HK.out]; rfl, b1⟩
      · clear hr e1
        go_wp2
        go_ret
        exact ⟨by rw [HK.out]; rfl, b1⟩

def RunP2 (w : World) (e : Ending) (w' : World) : Prop :=
  ∃ (l : List Cd) (A : Option Addr) (c : Nat) (n : Int) (m : List Int) (Am : Option Addr) (cm : Nat), e = .returned (.tuple #[.slice A l.length c, .int .i64 n, .slice Am m.length cm]) ∧ l.length ≤ 200000 ∧ m.length ≤ 40 ∧ (0 ≤ n ∧ n ≤ 9) ∧ (A = none → c = 0) ∧ l.length ≤ c ∧
    RdC w' w'.heap.size A l ∧ RdI w' w'.heap.size Am m ∧ Below w.heap.size w w'
theorem OR.capR {w : World} {base e size n c : Nat} {A : Option Addr} {xs : List Value} (h : OR w base e size A n c xs) : n ≤ c := by
  rcases h.2 with ⟨hv, h0⟩ | ⟨g, cap, cur, hv, -, -, h4, -⟩
  · omega
  · injection hv with _ _ h3
    omega
theorem RunP2.of {w w1 w2 : World} {B g K n c m cm : Nat} {lanes : Int} {A Am : Option Addr} (hB : Below w.heap.size w w1) (hg : w.heap.size ≤ g) (hn : n ≤ 200000) (hm : m ≤ 40) (h0 : 0 ≤ lanes) (h9 : lanes ≤ 9) (D : DSx w1 B g K A n c w2) {l : List Int} (hl : l.length = m) (hrd : RdI w2 w2.heap.size Am l) :
    RunP2 w (.returned (.tuple #[.slice A n c, .int .i64 lanes, .slice Am m cm])) w2 := by
  obtain ⟨x, h1, h2, h3, h4⟩ := D
  obtain rfl := OC.len h1
  subst hl
  exact ⟨x, A, c, lanes, l, Am, cm, rfl, hn, hm, ⟨h0, h9⟩, fun e => OC.nilc h1 e, OR.capR h1, OC.rd h1, hrd, hB.grown h3 hB.size (fun k e => by cases e; exact hg)⟩

theorem drawLaunch2_c (A : Option Addr) (c : Nat) (bs : List Int) (w : World) (hA : Reads w w.heap.size 1 A bs.length (bs.map (.int .u8))) (hb : ∀ x ∈ bs, 0 ≤ x ∧ x ≤ 255) (hl : bs.length ≤ 9223372036854775807) (hcap : bs.length ≤ c) :
    Calls Tryz.prog 12 #[.slice A bs.length c] w (RunP2 w) := by
  go_enter Tryz.func12, Tryz.ntmps12
  go_wp2_with fail
  refine (l20Open_c A c bs w hA hb hl hcap).mono ?_
  rintro e w1 ⟨rfl, hR, hB, hs⟩
  go_wp2_with fail
  refine (l20Run_c hR (by omega) 14 (by omega)).mono ?_
  rintro e w2 ⟨A2, n2, c2, lanes, Am, m, cm, rfl, hn2, hm, h0, h9, D, l, hl2, hrd⟩
  go_wp2
  go_ret3
  exact RunP2.of hB (Nat.le_refl _) hn2 hm h0 h9 D hl2 hrd

end Go.Proofs.YtelbfeidpcojmaaGreat
