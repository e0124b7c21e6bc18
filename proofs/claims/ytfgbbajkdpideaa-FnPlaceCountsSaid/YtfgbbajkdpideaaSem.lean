/- Runs in lockstep without places: plain Lean, no program in sight. -/
import Derived.Test.YtfgbbajkdpideaaLock0
import Derived.Test.YtfgbbajkdpideaaSyn
namespace Go.Proofs.Ytfgbbajkdpideaa
set_option linter.unusedVariables false
set_option linter.unusedSimpArgs false

/-- A state (its steps are left empty), and the instructions that have been executed, with their masks. -/
structure GS where
  s : LS
  ev : List (Cd × Nat)
def GS.on (x : Cd) (m : Nat) (g : GS) : GS := ⟨g.s, g.ev ++ [(x, m)]⟩
def turnsG (f : Nat → GS → GS) (a : Int) : Nat → Nat → GS → GS
  | 0, _, g => g
  | n + 1, m, g => turnsG f a n (onesOf m a g.s) (f (onesOf m a g.s) g)
def Blk.go : Blk → Nat → GS → GS
  | .nil, _, g => g
  | .op x r, m, g => if m = 0 then g else r.go m ⟨execM x m g.s, g.ev ++ [(x, m)]⟩
  | .iff a t r, m, g => if m = 0 then g else r.go m (t.go (onesOf m a g.s) (g.on (cIf a) m))
  | .ife a t e r, m, g => if m = 0 then g else r.go m (e.go (mdiff m (onesOf m a g.s)) (t.go (onesOf m a g.s) (g.on (cIf a) m)))
  | .loop a b t r, m, g => if m = 0 then g else r.go m (turnsG (fun m g => t.go m g) a b.toNat m (g.on (cLoop a b) m))
theorem go_zero (b : Blk) (g : GS) : b.go 0 g = g := by cases b <;> simp [Blk.go]

def nb (s : LS) : LS := { s with beats := [] }
theorem ones_nb (m : Nat) (a : Int) (s : LS) : onesOf m a (nb s) = onesOf m a s := rfl
theorem exec1_nb (x : Cd) (s : LS) (k : Nat) : exec1 x (nb s) k = nb (exec1 x s k) := rfl
theorem execTo_nb (x : Cd) (m : Nat) (s : LS) : ∀ k, execTo x m (nb s) k = nb (execTo x m s k)
  | 0 => rfl
  | k + 1 => by
    simp only [execTo, execTo_nb x m s k]
    split <;> rfl
theorem execM_nb (x : Cd) (m : Nat) (s : LS) : execM x m (nb s) = nb (execM x m s) := by
  unfold execM
  rw [exec_to, exec_to, execTo_nb]
  dsimp only
  split <;> rfl
theorem nb_beat (p m : Nat) (s : LS) : nb (beat p m s) = nb s := rfl
def evOf (l : List Cd) (bs : List (Nat × Nat)) : List (Cd × Nat) := bs.map fun q => (cdAt l q.1, q.2)
theorem evOf_snoc (l : List Cd) (bs : List (Nat × Nat)) (p m : Nat) : evOf l (bs ++ [(p, m)]) = evOf l bs ++ [(cdAt l p, m)] := by simp [evOf]
/-- A state without places. -/
def GS.of (l : List Cd) (s : LS) : GS := ⟨nb s, evOf l s.beats⟩
theorem of_beat (l : List Cd) (p m : Nat) (s : LS) : GS.of l (beat p m s) = (GS.of l s).on (cdAt l p) m := by
  simp only [GS.of, GS.on, nb_beat]
  show GS.mk _ (evOf l (s.beats ++ [(p, m)])) = _
  rw [evOf_snoc]
theorem turns_go {f : Nat → LS → LS} {h : Nat → GS → GS} {l : List Cd} (hf : ∀ m s, GS.of l (f m s) = h m (GS.of l s)) (a : Int) : ∀ (b m : Nat) (s : LS), GS.of l (turnsOf f a b m s) = turnsG h a b m (GS.of l s)
  | 0, _, _ => rfl
  | b + 1, m, s => by
    simp only [turnsOf, turnsG]
    rw [turns_go hf a b, hf]
    rfl
theorem run_go {l : List Cd} (b : Blk) : ∀ (d p m : Nat) (rest : List Cd) (s : LS), b.ok d → l.drop p = b.flat ++ rest → GS.of l (b.run p m s) = b.go m (GS.of l s) := by
  induction b with
  | nil => intro d p m rest s _ _; rfl
  | op x r ih =>
    intro d p m rest s ⟨_, _, _, hr⟩ h
    obtain ⟨h1, h2, _⟩ := drop_cons h
    simp only [Blk.run, Blk.go]
    split
    · rfl
    · rw [ih d (p + 1) m rest _ hr h2]
      congr 1
      show GS.mk _ _ = _
      rw [← execM_nb, execM_beats, nb_beat]
      show GS.mk _ (evOf l (s.beats ++ [(p, m)])) = _
      rw [evOf_snoc, cdAt_get h1]
      rfl
  | iff a t r iht ihr =>
    intro d p m rest s ⟨_, _, ht, hr⟩ h
    have h' : l.drop p = cIf a :: (t.flat ++ cEnd :: (r.flat ++ rest)) := by rw [h]; simp [Blk.flat]
    obtain ⟨_, h2, h3⟩ := end_iff ht h'
    simp only [Blk.run, Blk.go]
    split
    · rfl
    · rw [ihr d _ m rest _ hr h3, iht _ _ _ _ _ ht h2, of_beat, cdAt_get (drop_cons h').1]
      rfl
  | ife a t e r iht ihe ihr =>
    intro d p m rest s ⟨_, _, ht, he, hr⟩ h
    have h' : l.drop p = cIf a :: (t.flat ++ cElse :: (e.flat ++ cEnd :: (r.flat ++ rest))) := by rw [h]; simp [Blk.flat]
    obtain ⟨_, h2, h3, h4⟩ := end_ife ht he h'
    simp only [Blk.run, Blk.go]
    split
    · rfl
    · rw [ihr d _ m rest _ hr h4, ihe _ _ _ _ _ he h3, iht _ _ _ _ _ ht h2, of_beat, cdAt_get (drop_cons h').1]
      rfl
  | loop a c t r iht ihr =>
    intro d p m rest s ⟨_, _, _, ht, hr⟩ h
    have h' : l.drop p = cLoop a c :: (t.flat ++ cEnd :: (r.flat ++ rest)) := by rw [h]; simp [Blk.flat]
    obtain ⟨_, h2, h3⟩ := end_iff ht h'
    simp only [Blk.run, Blk.go]
    split
    · rfl
    · rw [ihr d _ m rest _ hr h3, turns_go (h := fun m g => t.go m g) (fun m s => iht _ _ m _ s ht h2), of_beat, cdAt_get (drop_cons h').1]

/-- A run of a valid program, without places. -/
noncomputable def goS (l : List Cd) (n : Nat) (m : List Int) : GS := (treeOf l).go (2 ^ n - 1) ⟨LS.start n m, []⟩
theorem goS_eq {l : List Cd} (h : pv l = true) (n : Nat) (m : List Int) : goS l n m = GS.of l (lockS l n m) := by
  obtain ⟨h1, h2⟩ := treeOf_spec h
  unfold goS lockS runT
  rw [run_go (treeOf l) 3 0 _ [] _ h1 (by simp [h2])]
  rfl

/-! ### A program has one tree -/
def stop (r : List Cd) : Prop := ∀ x q, r = x :: q → x.op = 14 ∨ x.op = 12
theorem flat_inj (b : Blk) : ∀ (d d' : Nat) (b' : Blk) (r r' : List Cd), b.ok d → b'.ok d' → stop r → stop r' → b.flat ++ r = b'.flat ++ r' → b = b' ∧ r = r' := by
  induction b with
  | nil =>
    intro d d' b' r r' _ hb' hs _ h
    cases b' with
    | nil => exact ⟨rfl, h⟩
    | op x q => have := hs _ _ h; obtain ⟨_, _, h10, _⟩ := hb'; omega
    | iff a t q => have := hs _ _ h; simp [cIf] at this
    | ife a t e q => have := hs _ _ h; simp [cIf] at this
    | loop a c t q => have := hs _ _ h; simp [cLoop] at this
  | op x q ih =>
    intro d d' b' r r' hb hb' hs hs' h
    obtain ⟨_, _, h10, hq⟩ := hb
    cases b' with
    | nil => have := hs' _ _ h.symm; omega
    | op y q' =>
      simp only [Blk.flat, List.cons_append, List.cons.injEq] at h
      obtain ⟨e1, e2⟩ := ih _ _ _ _ _ hq hb'.2.2.2 hs hs' h.2
      exact ⟨by rw [h.1, e1], e2⟩
    | iff a t q' => simp only [Blk.flat, List.cons_append, List.cons.injEq] at h; rw [h.1] at h10; simp [cIf] at h10
    | ife a t e q' => simp only [Blk.flat, List.cons_append, List.cons.injEq] at h; rw [h.1] at h10; simp [cIf] at h10
    | loop a c t q' => simp only [Blk.flat, List.cons_append, List.cons.injEq] at h; rw [h.1] at h10; simp [cLoop] at h10
  | iff a t q iht ihq =>
    intro d d' b' r r' hb hb' hs hs' h
    obtain ⟨_, _, ht, hq⟩ := hb
    have s1 : ∀ q : List Cd, stop (cEnd :: q) := fun q x p e => by injection e with e; rw [← e]; exact .inl rfl
    have s2 : ∀ q : List Cd, stop (cElse :: q) := fun q x p e => by injection e with e; rw [← e]; exact .inr rfl
    cases b' with
    | nil => have := hs' _ _ h.symm; simp [cIf] at this
    | op y q' => obtain ⟨_, _, h10, _⟩ := hb'; simp only [Blk.flat, List.cons_append, List.cons.injEq] at h; rw [← h.1] at h10; simp [cIf] at h10
    | iff a' t' q' =>
      obtain ⟨_, _, ht', hq'⟩ := hb'
      simp only [Blk.flat, List.cons_append, List.cons.injEq, List.append_assoc] at h
      obtain ⟨e1, e2⟩ := iht _ _ _ _ _ ht ht' (s1 _) (s1 _) h.2
      injection e2 with _ e2
      obtain ⟨e3, e4⟩ := ihq _ _ _ _ _ hq hq' hs hs' e2
      have e5 : a = a' := by have := congrArg Cd.a h.1; exact this
      exact ⟨by rw [e1, e3, e5], e4⟩
    | ife a' t' e' q' =>
      obtain ⟨_, _, ht', _, _⟩ := hb'
      simp only [Blk.flat, List.cons_append, List.cons.injEq, List.append_assoc] at h
      obtain ⟨_, e2⟩ := iht _ _ _ _ _ ht ht' (s1 _) (s2 _) h.2
      injection e2 with e2 _
      have := congrArg Cd.op e2
      simp [cEnd, cElse] at this
    | loop a' c t' q' => simp only [Blk.flat, List.cons_append, List.cons.injEq] at h; have := congrArg Cd.op h.1; simp [cLoop, cIf] at this
  | ife a t e q iht ihe ihq =>
    intro d d' b' r r' hb hb' hs hs' h
    obtain ⟨_, _, ht, he, hq⟩ := hb
    have s1 : ∀ q : List Cd, stop (cEnd :: q) := fun q x p e => by injection e with e; rw [← e]; exact .inl rfl
    have s2 : ∀ q : List Cd, stop (cElse :: q) := fun q x p e => by injection e with e; rw [← e]; exact .inr rfl
    cases b' with
    | nil => have := hs' _ _ h.symm; simp [cIf] at this
    | op y q' => obtain ⟨_, _, h10, _⟩ := hb'; simp only [Blk.flat, List.cons_append, List.cons.injEq] at h; rw [← h.1] at h10; simp [cIf] at h10
    | iff a' t' q' =>
      obtain ⟨_, _, ht', hq'⟩ := hb'
      simp only [Blk.flat, List.cons_append, List.cons.injEq, List.append_assoc] at h
      obtain ⟨_, e2⟩ := iht _ _ _ _ _ ht ht' (s2 _) (s1 _) h.2
      injection e2 with e2 _
      have := congrArg Cd.op e2
      simp [cEnd, cElse] at this
    | ife a' t' e' q' =>
      obtain ⟨_, _, ht', he', hq'⟩ := hb'
      simp only [Blk.flat, List.cons_append, List.cons.injEq, List.append_assoc] at h
      obtain ⟨e1, e2⟩ := iht _ _ _ _ _ ht ht' (s2 _) (s2 _) h.2
      injection e2 with _ e2
      obtain ⟨e3, e4⟩ := ihe _ _ _ _ _ he he' (s1 _) (s1 _) e2
      injection e4 with _ e4
      obtain ⟨e5, e6⟩ := ihq _ _ _ _ _ hq hq' hs hs' e4
      have e7 : a = a' := by have := congrArg Cd.a h.1; exact this
      exact ⟨by rw [e1, e3, e5, e7], e6⟩
    | loop a' c t' q' => simp only [Blk.flat, List.cons_append, List.cons.injEq] at h; have := congrArg Cd.op h.1; simp [cLoop, cIf] at this
  | loop a c t q iht ihq =>
    intro d d' b' r r' hb hb' hs hs' h
    obtain ⟨_, _, _, ht, hq⟩ := hb
    have s1 : ∀ q : List Cd, stop (cEnd :: q) := fun q x p e => by injection e with e; rw [← e]; exact .inl rfl
    cases b' with
    | nil => have := hs' _ _ h.symm; simp [cLoop] at this
    | op y q' => obtain ⟨_, _, h10, _⟩ := hb'; simp only [Blk.flat, List.cons_append, List.cons.injEq] at h; rw [← h.1] at h10; simp [cLoop] at h10
    | iff a' t' q' => simp only [Blk.flat, List.cons_append, List.cons.injEq] at h; have := congrArg Cd.op h.1; simp [cLoop, cIf] at this
    | ife a' t' e' q' => simp only [Blk.flat, List.cons_append, List.cons.injEq] at h; have := congrArg Cd.op h.1; simp [cLoop, cIf] at this
    | loop a' c' t' q' =>
      obtain ⟨_, _, _, ht', hq'⟩ := hb'
      simp only [Blk.flat, List.cons_append, List.cons.injEq, List.append_assoc] at h
      obtain ⟨e1, e2⟩ := iht _ _ _ _ _ ht ht' (s1 _) (s1 _) h.2
      injection e2 with _ e2
      obtain ⟨e3, e4⟩ := ihq _ _ _ _ _ hq hq' hs hs' e2
      have e5 : a = a' := by have := congrArg Cd.a h.1; exact this
      have e6 : c = c' := by have := congrArg Cd.b h.1; exact this
      exact ⟨by rw [e1, e3, e5, e6], e4⟩
theorem treeOf_eq {b : Blk} {l : List Cd} (hb : b.ok 3) (hl : b.flat = l) (h : pv l = true) : treeOf l = b := by
  obtain ⟨h1, h2⟩ := treeOf_spec h
  have s0 : stop [] := fun x q e => by cases e
  exact (flat_inj (treeOf l) 3 3 b [] [] h1 hb s0 s0 (by rw [h2, hl])).1
theorem goS_tree {b : Blk} {l : List Cd} (hb : b.ok 3) (hl : b.flat = l) (h : pv l = true) (n : Nat) (m : List Int) : goS l n m = b.go (2 ^ n - 1) ⟨LS.start n m, []⟩ := by
  unfold goS
  rw [treeOf_eq hb hl h]

/-! ### What goes behind a tree -/
def Blk.app : Blk → Blk → Blk
  | .nil, c => c
  | .op x r, c => .op x (r.app c)
  | .iff a t r, c => .iff a t (r.app c)
  | .ife a t e r, c => .ife a t e (r.app c)
  | .loop a b t r, c => .loop a b t (r.app c)
theorem flat_app (b c : Blk) : (b.app c).flat = b.flat ++ c.flat := by
  induction b with
  | nil => rfl
  | op x r ih => simp [Blk.app, Blk.flat, ih]
  | iff a t r _ ih => simp [Blk.app, Blk.flat, ih]
  | ife a t e r _ _ ih => simp [Blk.app, Blk.flat, ih]
  | loop a b t r _ ih => simp [Blk.app, Blk.flat, ih]
theorem go_app (b c : Blk) : ∀ (m : Nat) (g : GS), (b.app c).go m g = c.go m (b.go m g) := by
  induction b with
  | nil => intro m g; rfl
  | op x r ih => intro m g; simp only [Blk.app, Blk.go]; split <;> rename_i h <;> simp [h, go_zero, ih]
  | iff a t r _ ih => intro m g; simp only [Blk.app, Blk.go]; split <;> rename_i h <;> simp [h, go_zero, ih]
  | ife a t e r _ _ ih => intro m g; simp only [Blk.app, Blk.go]; split <;> rename_i h <;> simp [h, go_zero, ih]
  | loop a b t r _ ih => intro m g; simp only [Blk.app, Blk.go]; split <;> rename_i h <;> simp [h, go_zero, ih]
theorem ok_app {b c : Blk} {d : Nat} (hc : c.ok d) : b.ok d → (b.app c).ok d := by
  induction b with
  | nil => intro _; exact hc
  | op x r ih => intro ⟨h1, h2, h3, h4⟩; exact ⟨h1, h2, h3, ih h4⟩
  | iff a t r _ ih => intro ⟨h1, h2, h3, h4⟩; exact ⟨h1, h2, h3, ih h4⟩
  | ife a t e r _ _ ih => intro ⟨h1, h2, h3, h4, h5⟩; exact ⟨h1, h2, h3, h4, ih h5⟩
  | loop a b t r _ ih => intro ⟨h1, h2, h3, h4, h5⟩; exact ⟨h1, h2, h3, h4, ih h5⟩

theorem execTo_later (x : Cd) (m : Nat) (s : LS) (j : Nat) : ∀ k, k ≤ j → (execTo x m s k).regs.getD j [] = s.regs.getD j []
  | 0, _ => rfl
  | k + 1, h => by
    have ih := execTo_later x m s j k (by omega)
    simp only [execTo]
    split
    · rw [← ih]
      simp [exec1, List.getD_eq_getElem?_getD, List.getElem?_set_ne (show k ≠ j by omega)]
    · exact ih
theorem set_self {α : Type} (l : List (List α)) (k : Nat) : l.set k (l.getD k []) = l := by
  apply List.ext_getElem?
  intro j
  rw [List.getElem?_set]
  by_cases e : k = j
  · subst e
    rw [if_pos rfl]
    by_cases h : k < l.length
    · rw [if_pos h, List.getD_eq_getElem?_getD, List.getElem?_eq_getElem h]; rfl
    · rw [if_neg h, List.getElem?_eq_none (by omega)]
  · rw [if_neg e]
theorem pick_to {y : Cd} (hy : y.op = 5) (a : Int) {m : Nat} (hm : m < 2 ^ 8) (s : LS) : ∀ k, execTo ⟨7, y.a, y.b, a⟩ m s k = execTo y (onesOf m a s) s k
  | 0 => rfl
  | k + 1 => by
    have ih := pick_to hy a hm s k
    have hl := execTo_later y (onesOf m a s) s k k (Nat.le_refl _)
    have hb := onesOf_bit m a s k hm
    have hmem : memOp ⟨7, y.a, y.b, a⟩ = false := rfl
    have hmem2 : memOp y = false := by simp [memOp, hy]
    simp only [execTo, ih, hb]
    generalize execTo y (onesOf m a s) s k = t at *
    cases h1 : m.testBit k with
    | false => simp
    | true =>
      have hreg : s.reg k a = rg (t.regs.getD k []) a := by unfold LS.reg; rw [hl]
      rw [hreg]
      cases h2 : (rg (t.regs.getD k []) a == 0) with
      | true =>
        have : simp1 ⟨7, y.a, y.b, a⟩ k (t.regs.getD k []) t.mem = (t.regs.getD k [], t.mem) := by
          unfold simp1
          rw [show ((7 : Int) == 1) = false from rfl, show ((7 : Int) == 2) = false from rfl, show ((7 : Int) == 3) = false from rfl, show ((7 : Int) == 4) = false from rfl, show ((7 : Int) == 5) = false from rfl, show ((7 : Int) == 6) = false from rfl, show ((7 : Int) == 7) = true from rfl, h2]
          rfl
        simp only [exec1, this, hmem, set_self]
        simp
      | false =>
        have e1 : simp1 ⟨7, y.a, y.b, a⟩ k (t.regs.getD k []) t.mem = ((t.regs.getD k []).set y.a.toNat (rg (t.regs.getD k []) y.b), t.mem) := by
          unfold simp1
          rw [show ((7 : Int) == 1) = false from rfl, show ((7 : Int) == 2) = false from rfl, show ((7 : Int) == 3) = false from rfl, show ((7 : Int) == 4) = false from rfl, show ((7 : Int) == 5) = false from rfl, show ((7 : Int) == 6) = false from rfl, show ((7 : Int) == 7) = true from rfl, h2]
          rfl
        have e2 : simp1 y k (t.regs.getD k []) t.mem = ((t.regs.getD k []).set y.a.toNat (rg (t.regs.getD k []) y.b), t.mem) := by simp [simp1, hy]
        simp only [exec1, e1, e2, hmem, hmem2]
        simp
theorem pick_exec {y : Cd} (hy : y.op = 5) (a : Int) {m : Nat} (hm : m < 2 ^ 8) (s : LS) : execM ⟨7, y.a, y.b, a⟩ m s = execM y (onesOf m a s) s := by
  have e1 : ((7 : Int) == 10) = false := rfl
  have e2 : (y.op == 10) = false := by rw [hy]; rfl
  unfold execM
  rw [exec_to, exec_to, pick_to hy a hm]
  simp [e1, e2]
theorem execM_zero {y : Cd} (hy : y.op ≠ 10) (s : LS) : execM y 0 s = s := by
  have e2 : (y.op == 10) = false := beq_eq_false_iff_ne.2 hy
  have e3 : lanesOf 0 = [] := rfl
  unfold execM
  simp [e2, e3]

/-- A block of one copy. -/
def mvOf : Blk → Option Cd
  | .op x .nil => if x.op == 5 then some x else none
  | _ => none
theorem mvOf_some {t : Blk} {y : Cd} (h : mvOf t = some y) : t = .op y .nil ∧ y.op = 5 := by
  unfold mvOf at h
  split at h
  · split at h
    · rename_i h5
      injection h with h
      subst h
      exact ⟨rfl, beq_iff_eq.1 h5⟩
    · cases h
  · cases h
def Blk.picks : Blk → Blk
  | .nil => .nil
  | .op x r => .op x r.picks
  | .iff a t r => match mvOf t with
    | some y => .op ⟨7, y.a, y.b, a⟩ r.picks
    | none => .iff a t.picks r.picks
  | .ife a t e r => .ife a t.picks e.picks r.picks
  | .loop a b t r => .loop a b t.picks r.picks
theorem picks_nil {b : Blk} (h : b.picks = .nil) : b = .nil := by
  cases b with
  | nil => rfl
  | op x r => simp [Blk.picks] at h
  | iff a t r => simp only [Blk.picks] at h; split at h <;> simp at h
  | ife a t e r => simp [Blk.picks] at h
  | loop a b t r => simp [Blk.picks] at h
theorem mvOf_picks (t : Blk) (h : mvOf t = none) : mvOf t.picks = none := by
  cases hm : mvOf t.picks with
  | none => rfl
  | some y =>
    obtain ⟨e, h5⟩ := mvOf_some hm
    exfalso
    cases t with
    | nil => simp [Blk.picks] at e
    | op x r =>
      simp only [Blk.picks, Blk.op.injEq] at e
      have hr := picks_nil e.2
      rw [hr, e.1] at h
      simp [mvOf, h5] at h
    | iff a t r =>
      simp only [Blk.picks] at e
      split at e
      · injection e with e _
        rw [← e] at h5
        simp at h5
      · simp at e
    | ife a t e r => simp [Blk.picks] at e
    | loop a b t r => simp [Blk.picks] at e
theorem picks_twice (b : Blk) : b.picks.picks = b.picks := by
  induction b with
  | nil => rfl
  | op x r ih => simp [Blk.picks, ih]
  | iff a t r iht ihr =>
    simp only [Blk.picks]
    split
    · simp [Blk.picks, ihr]
    · rename_i h
      simp [Blk.picks, mvOf_picks t h, iht, ihr]
  | ife a t e r iht ihe ihr => simp [Blk.picks, iht, ihe, ihr]
  | loop a c t r iht ihr => simp [Blk.picks, iht, ihr]
theorem picks_ok (b : Blk) : ∀ d, b.ok d → b.picks.ok d := by
  induction b with
  | nil => intro d h; exact h
  | op x r ih => intro d ⟨h1, h2, h3, h4⟩; exact ⟨h1, h2, h3, ih d h4⟩
  | iff a t r iht ihr =>
    intro d ⟨h1, h2, h3, h4⟩
    simp only [Blk.picks]
    split
    · rename_i y hy
      obtain ⟨rfl, h5⟩ := mvOf_some hy
      obtain ⟨hv, _⟩ := h3
      refine ⟨?_, by simp, by simp, ihr d h4⟩
      have ha := cvOk_a hv
      have hb := cvOk_b2 hv (by simp [h5])
      simp [cvOk, inR, ha, hb, h1]
    · exact ⟨h1, h2, iht _ h3, ihr d h4⟩
  | ife a t e r iht ihe ihr => intro d ⟨h1, h2, h3, h4, h5⟩; exact ⟨h1, h2, iht _ h3, ihe _ h4, ihr d h5⟩
  | loop a c t r iht ihr => intro d ⟨h1, h2, h3, h4, h5⟩; exact ⟨h1, h2, h3, iht _ h4, ihr d h5⟩

/-- Equal states, and the same barriers. -/
def barr (ev : List (Cd × Nat)) : List (Cd × Nat) := ev.filter fun q => q.1.op == 10
def SameB (g h : GS) : Prop := g.s = h.s ∧ barr g.ev = barr h.ev
theorem SameB.on {g h : GS} (k : SameB g h) (x y : Cd) (m : Nat) (hx : x.op ≠ 10) (hy : y.op ≠ 10) : SameB (g.on x m) (h.on y m) := by
  refine ⟨k.1, ?_⟩
  have e1 : (x.op == 10) = false := beq_eq_false_iff_ne.2 hx
  have e2 : (y.op == 10) = false := beq_eq_false_iff_ne.2 hy
  simp only [GS.on, barr, List.filter_append, List.filter_cons, e1, e2]
  simpa [barr] using k.2
theorem SameB.turns {f f' : Nat → GS → GS} (hf : ∀ m g h, m < 2 ^ 8 → SameB g h → SameB (f m g) (f' m h)) (a : Int) : ∀ (b m : Nat) (g h : GS), m < 2 ^ 8 → SameB g h → SameB (turnsG f a b m g) (turnsG f' a b m h)
  | 0, _, _, _, _, k => k
  | b + 1, m, g, h, hm, k => by
    simp only [turnsG]
    rw [← k.1]
    have hlt := onesOf_lt hm (by omega) a g.s
    exact SameB.turns hf a b _ _ _ hlt (hf _ _ _ hlt k)
theorem picks_go (b : Blk) : ∀ (d m : Nat) (g h : GS), b.ok d → m < 2 ^ 8 → SameB g h → SameB (b.go m g) (b.picks.go m h) := by
  induction b with
  | nil => intro d m g h _ _ k; exact k
  | op x r ih =>
    intro d m g h ⟨_, _, _, hr⟩ hm k
    simp only [Blk.picks, Blk.go]
    split
    · exact k
    · refine ih d _ _ _ hr hm ⟨by rw [k.1], ?_⟩
      have := k.2
      simp only [barr] at this
      simp only [barr, List.filter_append, this]
  | iff a t r iht ihr =>
    intro d m g h ⟨_, _, ht, hr⟩ hm k
    simp only [Blk.picks]
    split
    · rename_i y hy
      obtain ⟨rfl, h5⟩ := mvOf_some hy
      simp only [Blk.go]
      split
      · exact k
      · refine ihr d _ _ _ hr hm ?_
        rw [pick_exec h5 a hm, ← k.1]
        split
        · rename_i h0
          rw [h0, execM_zero (by omega)]
          have := k.on (cIf a) ⟨7, y.a, y.b, a⟩ m (by simp [cIf]) (by simp)
          exact ⟨this.1.trans k.1.symm ▸ rfl, this.2⟩
        · have := k.on (cIf a) ⟨7, y.a, y.b, a⟩ m (by simp [cIf]) (by simp)
          refine ⟨rfl, ?_⟩
          have e5 : (y.op == 10) = false := by rw [h5]; rfl
          have e7 := this.2
          simp only [GS.on] at e7
          simp only [GS.on, barr, List.filter_append, List.filter_cons, e5] at e7 ⊢
          simpa [barr] using e7
    · simp only [Blk.go]
      split
      · exact k
      · refine ihr d _ _ _ hr hm ?_
        rw [← k.1]
        exact iht _ _ _ _ ht (onesOf_lt hm (by omega) a g.s) (k.on _ _ _ (by simp [cIf]) (by simp [cIf]))
  | ife a t e r iht ihe ihr =>
    intro d m g h ⟨_, _, ht, he, hr⟩ hm k
    simp only [Blk.picks, Blk.go]
    split
    · exact k
    · refine ihr d _ _ _ hr hm ?_
      rw [← k.1]
      exact ihe _ _ _ _ he (mdiff_lt hm) (iht _ _ _ _ ht (onesOf_lt hm (by omega) a g.s) (k.on _ _ _ (by simp [cIf]) (by simp [cIf])))
  | loop a c t r iht ihr =>
    intro d m g h ⟨_, _, _, ht, hr⟩ hm k
    simp only [Blk.picks, Blk.go]
    split
    · exact k
    · refine ihr d _ _ _ hr hm ?_
      exact SameB.turns (f := fun m g => t.go m g) (f' := fun m g => t.picks.go m g) (fun m g h hm k => iht _ _ _ _ ht hm k) a _ _ _ _ hm (k.on _ _ _ (by simp [cLoop]) (by simp [cLoop]))

/-! ### The list of a tree with picks -/
theorem picked_keep {x : Cd} {l : List Cd} (h : ∀ y z r, l = y :: z :: r → ¬(x.op = 11 ∧ y.op = 5 ∧ z.op = 14)) : picked (x :: l) = x :: picked l := by
  match l, h with
  | [], _ => rfl
  | [y], _ => rfl
  | y :: z :: r, h =>
    have := h y z r rfl
    have e : (x.op == 11 && y.op == 5 && z.op == 14) = false := by
      simp only [Bool.and_eq_false_iff, beq_eq_false_iff_ne]
      by_cases h1 : x.op = 11 <;> by_cases h2 : y.op = 5 <;> by_cases h3 : z.op = 14 <;> simp_all
    simp [picked, e]
theorem flat_head (b : Blk) (d : Nat) (h : b.ok d) (hb : b ≠ .nil) : ∃ x q, b.flat = x :: q ∧ x.op ≠ 14 := by
  cases b with
  | nil => exact absurd rfl hb
  | op x r => obtain ⟨_, _, h3, _⟩ := h; exact ⟨x, _, rfl, by omega⟩
  | iff a t r => exact ⟨_, _, rfl, by simp [cIf]⟩
  | ife a t e r => exact ⟨_, _, rfl, by simp [cIf]⟩
  | loop a c t r => exact ⟨_, _, rfl, by simp [cLoop]⟩
/-- An if is kept unless its block is one copy and its end. -/
theorem picked_if {a : Int} {t : Blk} {d : Nat} {e : Cd} {q : List Cd} (ht : t.ok d) (he : e.op = 14 ∨ e.op = 12) (h : mvOf t = none ∨ e.op = 12) : picked (cIf a :: (t.flat ++ e :: q)) = cIf a :: picked (t.flat ++ e :: q) := by
  refine picked_keep fun y z r hl ⟨_, h5, h14⟩ => ?_
  cases t with
  | nil =>
    simp only [Blk.flat, List.nil_append, List.cons.injEq] at hl
    rw [← hl.1] at h5
    omega
  | op x q' =>
    obtain ⟨_, _, _, hq⟩ := ht
    simp only [Blk.flat, List.cons_append, List.cons.injEq] at hl
    by_cases hn : q' = .nil
    · subst hn
      simp only [Blk.flat, List.nil_append, List.cons.injEq] at hl
      rcases h with h | h
      · simp [mvOf, hl.1, h5] at h
      · rw [hl.2.1] at h; omega
    · obtain ⟨x2, q2, e2, h2⟩ := flat_head q' _ hq hn
      rw [e2] at hl
      simp only [List.cons_append, List.cons.injEq] at hl
      rw [hl.2.1] at h2
      exact h2 h14
  | iff a' t' q' => simp only [Blk.flat, List.cons_append, List.cons.injEq] at hl; rw [← hl.1] at h5; simp [cIf] at h5
  | ife a' t' e' q' => simp only [Blk.flat, List.cons_append, List.cons.injEq] at hl; rw [← hl.1] at h5; simp [cIf] at h5
  | loop a' c' t' q' => simp only [Blk.flat, List.cons_append, List.cons.injEq] at hl; rw [← hl.1] at h5; simp [cLoop] at h5
theorem picked_other {x : Cd} (h : x.op ≠ 11) (l : List Cd) : picked (x :: l) = x :: picked l := picked_keep fun _ _ _ _ hh => h hh.1
theorem flat_picks (b : Blk) : ∀ (d : Nat) (rest : List Cd), b.ok d → picked (b.flat ++ rest) = b.picks.flat ++ picked rest := by
  induction b with
  | nil => intro d rest _; rfl
  | op x r ih =>
    intro d rest ⟨_, _, h10, hr⟩
    simp only [Blk.flat, Blk.picks, List.cons_append]
    rw [picked_other (by omega), ih d rest hr]
  | iff a t r iht ihr =>
    intro d rest ⟨_, _, ht, hr⟩
    simp only [Blk.picks]
    split
    · rename_i y hy
      obtain ⟨rfl, h5⟩ := mvOf_some hy
      simp only [Blk.flat, List.cons_append, List.nil_append]
      rw [← ihr d rest hr]
      simp [picked, cIf, cEnd, h5]
    · rename_i hy
      simp only [Blk.flat, List.cons_append, List.append_assoc]
      rw [picked_if ht (.inl rfl) (.inl hy), iht _ _ ht, picked_other (by simp [cEnd]), ihr d rest hr]
  | ife a t e r iht ihe ihr =>
    intro d rest ⟨_, _, ht, he, hr⟩
    simp only [Blk.picks, Blk.flat, List.cons_append, List.append_assoc]
    rw [picked_if ht (.inr rfl) (.inr rfl), iht _ _ ht, picked_other (by simp [cElse]), ihe _ _ he, picked_other (by simp [cEnd]), ihr d rest hr]
  | loop a c t r iht ihr =>
    intro d rest ⟨_, _, _, ht, hr⟩
    simp only [Blk.picks, Blk.flat, List.cons_append, List.append_assoc]
    rw [picked_other (by simp [cLoop]), iht _ _ ht, picked_other (by simp [cEnd]), ihr d rest hr]
theorem picked_len_n : ∀ (n : Nat) (l : List Cd), l.length ≤ n → (picked l).length ≤ l.length
  | 0, l, h => by rw [List.eq_nil_of_length_eq_zero (Nat.le_zero.1 h)]; simp [picked]
  | n + 1, [], h => by simp [picked]
  | n + 1, [x], h => by simp [picked]
  | n + 1, [x, y], h => by simp [picked]
  | n + 1, x :: y :: z :: r, h => by
    simp only [List.length_cons] at h
    simp only [picked]
    split
    · have := picked_len_n n r (by omega); simp; omega
    · have := picked_len_n n (y :: z :: r) (by simp; omega); simp only [List.length_cons] at this ⊢; omega
theorem tree_picked {l : List Cd} (h : pv l = true) : (treeOf l).picks.ok 3 ∧ (treeOf l).picks.flat = picked l ∧ pv (picked l) = true := by
  obtain ⟨h1, h2⟩ := treeOf_spec h
  have e : (treeOf l).picks.flat = picked l := by
    have := flat_picks (treeOf l) 3 [] h1
    rw [List.append_nil, h2] at this
    rw [this]; simp [picked]
  have hl := (pv_iff.1 h).1
  have hp := picked_len_n _ l (Nat.le_refl _)
  exact ⟨picks_ok _ _ h1, e, pv_tree.2 ⟨by omega, _, picks_ok _ _ h1, e⟩⟩
theorem picked_picked {l : List Cd} (h : pv l = true) : picked (picked l) = picked l := by
  obtain ⟨h1, h2, h3⟩ := tree_picked h
  have := flat_picks (treeOf l).picks 3 [] h1
  rw [List.append_nil, h2, picks_twice, h2] at this
  rw [this]; simp [picked]

/-! ### How many places -/
theorem pickB_next {l : List Cd} {k : Nat} (h : pickB l k = true) : pickB l (k + 1) = false ∧ pickB l (k + 2) = false := by
  simp only [pickB, Bool.and_eq_true, beq_iff_eq] at h
  simp [pickB, h.1.2, h.2]
theorem picked_count (l : List Cd) : ∀ (n k : Nat), l.length - k = n → k ≤ l.length → (picked (l.drop k)).length + 2 * ((picksFrom l l.length).length - (picksFrom l k).length) = n ∧ (picksFrom l k).length ≤ (picksFrom l l.length).length := by
  intro n
  induction n using Nat.strongRecOn with
  | ind n ih =>
  intro k hn hk
  by_cases hlt : k < l.length
  · cases hp : pickB l k with
    | false =>
      have h1 := ih (n - 1) (by omega) (k + 1) (by omega) (by omega)
      rw [picksFrom_succ, hp] at h1
      simp only [Bool.false_eq_true, if_false, List.append_nil] at h1
      rw [picked_no hp hlt ⟨0, 0, 0, 0⟩]
      simp only [List.length_cons]
      omega
    | true =>
      obtain ⟨x, y, z, r, hd, e1, e2, e3, hl⟩ := pickB_true hp
      obtain ⟨n1, n2⟩ := pickB_next hp
      have h1 := ih (n - 3) (by omega) (k + 3) (by omega) (by omega)
      rw [show k + 3 = k + 2 + 1 by omega, picksFrom_succ, n2, picksFrom_succ, n1, picksFrom_succ, hp] at h1
      simp only [Bool.false_eq_true, if_false, List.append_nil, if_true, List.length_append, List.length_singleton] at h1
      have hd3 : l.drop (k + 2 + 1) = r := by
        have := drop_skip (m := [x, y, z]) (r := r) (by rw [hd]; rfl)
        simpa using this
      rw [hd3] at h1
      have hpk : picked (l.drop k) = ⟨7, y.a, y.b, x.a⟩ :: picked r := by rw [hd]; simp [picked, e1, e2, e3]
      rw [hpk]
      simp only [List.length_cons]
      omega
  · obtain rfl : k = l.length := by omega
    simp [picked]
    omega
theorem picked_length (l : List Cd) : (picked l).length + 2 * (picksFrom l l.length).length = l.length := by
  have := (picked_count l l.length 0 (by omega) (Nat.zero_le _)).1
  simpa [picksFrom] using this
theorem picks_none {l : List Cd} (h : pv l = true) : picksFrom (picked l) (picked l).length = [] := by
  have h1 := picked_length (picked l)
  rw [picked_picked h] at h1
  exact List.eq_nil_of_length_eq_zero (by omega)

/-! ### Runs -/
theorem splitB_ev (l : List Cd) (n : Nat) (bs : List (Nat × Nat)) (hb : ∀ q ∈ bs, q.1 < l.length) : splitB l n bs = (barr (evOf l bs)).any fun q => !(q.2 == 2 ^ n - 1) := by
  induction bs with
  | nil => rfl
  | cons q bs ih =>
    have ih := ih (fun q hq => hb q (List.mem_cons_of_mem _ hq))
    have e : opAt l q.1 = (cdAt l q.1).op := by
      have := hb q (List.mem_cons_self)
      simp [opAt, cdAt, List.getElem?_eq_getElem this]
    simp only [splitB, List.any_cons] at ih ⊢
    simp only [evOf, List.map_cons, barr, List.filter_cons] at ih ⊢
    rw [ih, e]
    cases (cdAt l q.1).op == 10 <;> simp
/-- What is the same for two programs that go alike. -/
theorem alike_of {l l' : List Cd} (h : pv l = true) (h' : pv l' = true) {n : Nat} (hn : 1 ≤ n ∧ n ≤ 8) {m : List Int} (hm : memOk m = true) (k : SameB (goS l n m) (goS l' n m)) :
    (lockS l n m).mem = (lockS l' n m).mem ∧ (lockS l n m).regs = (lockS l' n m).regs ∧ (lockS l n m).accs = (lockS l' n m).accs ∧ splitB l n (lockS l n m).beats = splitB l' n (lockS l' n m).beats := by
  rw [goS_eq h, goS_eq h'] at k
  obtain ⟨k1, k2⟩ := k
  replace k1 : nb (lockS l n m) = nb (lockS l' n m) := k1
  have kin : ∀ {l : List Cd}, pv l = true → ∀ q ∈ (lockS l n m).beats, q.1 < l.length := by
    intro l h q hq
    have hok : lockOk l n m = true := by
      have : inR (n : Int) 1 8 = true := inR_iff.2 (by omega)
      simp [lockOk, h, hm, this]
    have := trace_in (l := l) (n := n) (m := m) q (by unfold traceOf; rw [if_pos hok]; simpa using hq)
    exact this.1
  refine ⟨?_, ?_, ?_, ?_⟩
  · have := congrArg LS.mem k1; exact this
  · have := congrArg LS.regs k1; exact this
  · have := congrArg LS.accs k1; exact this
  · rw [splitB_ev _ _ _ (kin h), splitB_ev _ _ _ (kin h')]
    show (barr (GS.of l (lockS l n m)).ev).any _ = (barr (GS.of l' (lockS l' n m)).ev).any _
    rw [k2]
theorem picks_run {l : List Cd} (h : pv l = true) {n : Nat} (hn : n ≤ 8) (m : List Int) : SameB (goS l n m) (goS (picked l) n m) := by
  obtain ⟨h1, h2⟩ := treeOf_spec h
  obtain ⟨h3, h4, h5⟩ := tree_picked h
  rw [goS_tree h3 h4 h5]
  refine picks_go _ 3 _ _ _ h1 ?_ ⟨rfl, rfl⟩
  have : 2 ^ n ≤ 2 ^ 8 := Nat.pow_le_pow_right (by decide) hn
  have : 0 < 2 ^ n := Nat.pow_pos (by decide)
  omega

def PR : List Int → List Int → Prop
  | [], [] => True
  | m :: s, m' :: s' => (m = m' ∨ (m = 13 ∧ m' = 11)) ∧ PR s s'
  | _, _ => False
theorem PR.refl : ∀ s, PR s s
  | [] => trivial
  | _ :: s => ⟨.inl rfl, PR.refl s⟩
theorem PR.len : ∀ {s s' : List Int}, PR s s' → s.length = s'.length
  | [], [], _ => rfl
  | _ :: s, _ :: s', h => by simp [PR.len h.2]
  | [], _ :: _, h => h.elim
  | _ :: _, [], h => h.elim
theorem pvStep_rel {s s' t : List Int} {x : Cd} (h : PR s s') (hs : pvStep s x = some t) : ∃ t', pvStep s' x = some t' ∧ PR t t' := by
  unfold pvStep at hs ⊢
  by_cases hv : cvOk x = true
  · simp only [hv, if_true] at hs ⊢
    by_cases h1 : (x.op == 11 || x.op == 13) = true
    · simp only [h1, if_true] at hs ⊢
      rw [← PR.len h]
      by_cases hl : s.length < 3
      · rw [if_pos hl] at hs ⊢
        injection hs with hs
        subst hs
        exact ⟨_, rfl, .inl rfl, h⟩
      · rw [if_neg hl] at hs
        cases hs
    · simp only [h1] at hs ⊢
      by_cases h2 : (x.op == 12) = true
      · simp only [h2, if_true] at hs ⊢
        match s, s', h, hs with
        | [], _, _, hs => simp at hs
        | _ :: _, [], h, _ => exact h.elim
        | m :: s, m' :: s', h, hs =>
          by_cases hm : m = 11
          · have hm' : m' = 11 := by
              rcases h.1 with e | ⟨e, e'⟩
              · rw [← e]; exact hm
              · exact e'
            simp [hm] at hs
            subst hs
            exact ⟨12 :: s', by simp [hm'], .inl rfl, h.2⟩
          · simp [hm] at hs
      · simp only [h2] at hs ⊢
        by_cases h3 : (x.op == 14) = true
        · simp only [h3, if_true] at hs ⊢
          match s, s', h, hs with
          | [], _, _, hs => simp at hs
          | _ :: _, [], h, _ => exact h.elim
          | m :: s, m' :: s', h, hs =>
            simp at hs
            subst hs
            exact ⟨s', by simp, h.2⟩
        · simp only [h3] at hs ⊢
          simp at hs ⊢
          subst hs
          exact h
  · simp [hv] at hs
theorem pvRun_rel : ∀ (l : List Cd) {s s' t : List Int}, PR s s' → pvRun s l = some t → ∃ t', pvRun s' l = some t' ∧ PR t t'
  | [], s, s', t, h, hs => by
    simp only [pvRun] at hs ⊢
    injection hs with hs
    subst hs
    exact ⟨s', rfl, h⟩
  | x :: l, s, s', t, h, hs => by
    simp only [pvRun] at hs ⊢
    cases hst : pvStep s x with
    | none => rw [hst] at hs; cases hs
    | some u =>
      rw [hst] at hs
      obtain ⟨u', e, hu⟩ := pvStep_rel h hst
      rw [e]
      exact pvRun_rel l hu hs
theorem set_split {l : List Cd} {k : Nat} {x : Cd} (hx : l[k]? = some x) (y : Cd) : l.set k y = l.take k ++ y :: l.drop (k + 1) := by
  have hk := (List.getElem?_eq_some_iff.1 hx).1
  have e1 : l = l.take k ++ x :: l.drop (k + 1) := by rw [← drop_get hx, List.take_append_drop]
  conv => lhs; rw [e1]
  rw [List.set_append]
  simp [List.length_take, Nat.min_eq_left (Nat.le_of_lt hk)]
theorem one_turn {l : List Cd} (h : pv l = true) {k : Nat} {x : Cd} (hx : l[k]? = some x) (ho : x.op = 13) : pv (l.set k (cIf x.a)) = true := by
  obtain ⟨h40, hp⟩ := pv_iff.1 h
  obtain ⟨hk, hxe⟩ := List.getElem?_eq_some_iff.1 hx
  refine pv_iff.2 ⟨by rw [List.length_set]; exact h40, ?_⟩
  have hv : cvOk x = true := pv_all h _ (List.mem_of_getElem? hx)
  have ha := cvOk_a hv
  have hci : cvOk (cIf x.a) = true := by
    have h4 := pow4 ha
    rcases h4 with e | e | e | e <;> (rw [e]; decide)
  have e1 : l = l.take k ++ x :: l.drop (k + 1) := by rw [← drop_get hx, List.take_append_drop]
  have e2 : l.set k (cIf x.a) = l.take k ++ cIf x.a :: l.drop (k + 1) := by
    conv => lhs; rw [e1]
    rw [List.set_append]
    simp [List.length_take, Nat.min_eq_left (Nat.le_of_lt hk)]
  rw [e1, pvRun_append] at hp
  rw [e2, pvRun_append]
  cases hs : pvRun [] (l.take k) with
  | none => rw [hs] at hp; cases hp
  | some s =>
    rw [hs] at hp
    simp only [pvRun] at hp ⊢
    have hst : pvStep s x = if s.length < 3 then some (13 :: s) else none := by simp [pvStep, hv, ho]
    have hst2 : pvStep s (cIf x.a) = if s.length < 3 then some (11 :: s) else none := by simp [pvStep, hci]; simp [cIf]
    by_cases hl : s.length < 3
    · rw [hst, if_pos hl] at hp
      rw [hst2, if_pos hl]
      obtain ⟨t', e, ht⟩ := pvRun_rel (l.drop (k + 1)) (s := 13 :: s) (s' := 11 :: s) ⟨.inr ⟨rfl, rfl⟩, PR.refl s⟩ hp
      simp only [e]
      cases t' with
      | nil => rfl
      | cons _ _ => exact ht.elim
    · rw [hst, if_neg hl] at hp
      cases hp
theorem peel_one {l : List Cd} (h : pv l = true) {k : Nat} (hk : k < l.length) (ho : (cdAt l k).op = 13) (hb : (cdAt l k).b = 1) : peelB l (k : Int) = true := by
  have hx : l[k]? = some (cdAt l k) := by unfold cdAt; rw [List.getElem?_eq_getElem hk]
  have hob : opB (cdAt l k) = true := by simp [opB, ho]
  obtain ⟨-, h1, h2⟩ := pEnd_bound h hx hob
  have e : peelOut l k = l.set k (cIf (cdAt l k).a) := by
    unfold peelOut bodyL
    rw [hb, if_neg (by decide), List.append_nil]
    have e2 := set_split hx (cIf (cdAt l k).a)
    have e3 : l.drop (pEnd l k) = (l.drop (k + 1)).drop (pEnd l k - (k + 1)) := by rw [List.drop_drop]; congr 1; omega
    rw [e2, e3, List.append_assoc, List.append_assoc, List.take_append_drop]
    rfl
  have hin : inR (k : Int) 0 ((l.length : Int) - 1) = true := inR_iff.2 ⟨by omega, by omega⟩
  simp [peelB, peelOk, h, hin, ho, e, one_turn h hx ho]

theorem peelPl_pre (l : List Cd) (k : Nat) : ∀ d, ∃ r, peelPl l (k + d) = peelPl l k ++ r ∧ ∀ a ∈ r, (k : Int) ≤ a ∧ peelB l a = true
  | 0 => ⟨[], by simp⟩
  | d + 1 => by
    obtain ⟨r, hr, hm⟩ := peelPl_pre l k d
    cases h : peelB l ((k + d : Nat) : Int) with
    | true =>
      refine ⟨r ++ [((k + d : Nat) : Int)], by rw [show k + (d + 1) = (k + d) + 1 by omega, peelPl_yes h, hr, List.append_assoc], fun a ha => ?_⟩
      rcases List.mem_append.1 ha with ha | ha
      · exact hm a ha
      · simp only [List.mem_singleton] at ha
        subst ha
        exact ⟨by omega, h⟩
    | false => exact ⟨r, by rw [show k + (d + 1) = (k + d) + 1 by omega, peelPl_no h, hr], hm⟩
theorem peelPl_get {l : List Cd} {k : Nat} (hk : k < l.length) (h : peelB l (k : Int) = true) : (peelPl l l.length)[(peelPl l k).length]? = some (k : Int) := by
  obtain ⟨r, hr, -⟩ := peelPl_pre l (k + 1) (l.length - (k + 1))
  rw [show k + 1 + (l.length - (k + 1)) = l.length by omega, peelPl_yes h] at hr
  rw [hr, List.append_assoc, List.getElem?_append_right (Nat.le_refl _)]
  simp
theorem peelPl_far {l : List Cd} {k : Nat} (hk : k < l.length) (h : peelB l (k : Int) = false) {q : Int} (hq : (peelPl l l.length)[(peelPl l k).length]? = some q) : q ≠ k := by
  obtain ⟨r, hr, hm⟩ := peelPl_pre l k (l.length - k)
  rw [show k + (l.length - k) = l.length by omega] at hr
  rw [hr, List.getElem?_append_right (Nat.le_refl _), Nat.sub_self] at hq
  have := (hm q (List.mem_of_getElem? hq)).2
  intro e
  rw [e, h] at this
  cases this

theorem ok_up (b : Blk) : ∀ d, b.ok d → b.ok (d + 1) := by
  induction b with
  | nil => intro d h; exact h
  | op x r ih => intro d ⟨h1, h2, h3, h4⟩; exact ⟨h1, h2, h3, ih d h4⟩
  | iff a t r iht ihr =>
    intro d ⟨h1, h2, h3, h4⟩
    have := iht _ h3
    rw [show d - 1 + 1 = d + 1 - 1 by omega] at this
    exact ⟨h1, by omega, this, ihr d h4⟩
  | ife a t e r iht ihe ihr =>
    intro d ⟨h1, h2, h3, h4, h5⟩
    have k1 := iht _ h3
    have k2 := ihe _ h4
    rw [show d - 1 + 1 = d + 1 - 1 by omega] at k1 k2
    exact ⟨h1, by omega, k1, k2, ihr d h5⟩
  | loop a c t r iht ihr =>
    intro d ⟨h1, h2, h3, h4, h5⟩
    have := iht _ h4
    rw [show d - 1 + 1 = d + 1 - 1 by omega] at this
    exact ⟨h1, h2, by omega, this, ihr d h5⟩
theorem SameB.refl (g : GS) : SameB g g := ⟨rfl, rfl⟩
theorem SameB.trans {f g h : GS} (a : SameB f g) (b : SameB g h) : SameB f h := ⟨a.1.trans b.1, a.2.trans b.2⟩
theorem SameB.onr {g h : GS} (k : SameB g h) (x : Cd) (m : Nat) (hx : x.op ≠ 10) : SameB g (h.on x m) := by
  refine ⟨k.1, ?_⟩
  have e1 : (x.op == 10) = false := beq_eq_false_iff_ne.2 hx
  simp only [GS.on, barr, List.filter_append, List.filter_cons, e1]
  simpa [barr] using k.2
theorem same_go (b : Blk) : ∀ (m : Nat) (g h : GS), m < 2 ^ 8 → SameB g h → SameB (b.go m g) (b.go m h) := by
  induction b with
  | nil => intro m g h _ k; exact k
  | op x r ih =>
    intro m g h hm k
    simp only [Blk.go]
    split
    · exact k
    · refine ih _ _ _ hm ⟨by rw [k.1], ?_⟩
      have := k.2
      simp only [barr] at this
      simp only [barr, List.filter_append, this]
  | iff a t r iht ihr =>
    intro m g h hm k
    simp only [Blk.go]
    split
    · exact k
    · refine ihr _ _ _ hm ?_
      rw [← k.1]
      exact iht _ _ _ (onesOf_lt hm (by omega) a g.s) (k.on _ _ _ (by simp [cIf]) (by simp [cIf]))
  | ife a t e r iht ihe ihr =>
    intro m g h hm k
    simp only [Blk.go]
    split
    · exact k
    · refine ihr _ _ _ hm ?_
      rw [← k.1]
      exact ihe _ _ _ (mdiff_lt hm) (iht _ _ _ (onesOf_lt hm (by omega) a g.s) (k.on _ _ _ (by simp [cIf]) (by simp [cIf])))
  | loop a c t r iht ihr =>
    intro m g h hm k
    simp only [Blk.go]
    split
    · exact k
    · exact ihr _ _ _ hm (SameB.turns (f := fun m g => t.go m g) (f' := fun m g => t.go m g) (fun m g h hm k => iht m g h hm k) a _ _ _ _ hm (k.on _ _ _ (by simp [cLoop]) (by simp [cLoop])))
theorem turnsG_zero {f : Nat → GS → GS} (hf : ∀ g, f 0 g = g) (a : Int) : ∀ (b : Nat) (g : GS), turnsG f a b 0 g = g
  | 0, _ => rfl
  | b + 1, g => by
    simp only [turnsG, onesOf_zero, hf]
    exact turnsG_zero hf a b g

/-- The tree of a loop whose first turn has been taken out. -/
def peelT (a b : Int) (t r : Blk) : Blk := if 1 < b then .iff a (t.app (.loop a (b - 1) t .nil)) r else .iff a t r
theorem peelT_go {a b : Int} {t r : Blk} (hb : 1 ≤ b) {m : Nat} (hm : m < 2 ^ 8) {g h : GS} (k : SameB g h) : SameB ((Blk.loop a b t r).go m g) ((peelT a b t r).go m h) := by
  have k0 : SameB (g.on (cLoop a b) m) (h.on (cIf a) m) := k.on _ _ _ (by simp [cLoop]) (by simp [cIf])
  have hlt := onesOf_lt hm (by omega) a g.s
  obtain ⟨n, hn⟩ : ∃ n : Nat, b.toNat = n + 1 := ⟨b.toNat - 1, by omega⟩
  have e1 : onesOf m a h.s = onesOf m a g.s := by rw [k.1]
  have kt := same_go t _ _ _ hlt k0
  unfold peelT
  split
  · rename_i h1
    simp only [Blk.go]
    split
    · exact k
    · refine same_go r _ _ _ hm ?_
      rw [e1, go_app, hn]
      simp only [turnsG, Blk.go]
      show SameB (turnsG _ a n (onesOf m a g.s) (t.go (onesOf m a g.s) (g.on (cLoop a b) m))) _
      split
      · rename_i h0
        rw [h0, turnsG_zero (fun g => go_zero t g), go_zero, go_zero]
        exact k0
      · rw [show (b - 1).toNat = n by omega]
        exact SameB.turns (f := fun m g => t.go m g) (f' := fun m g => t.go m g) (fun m g h hm k => same_go t m g h hm k) a _ _ _ _ hlt (kt.onr _ _ (by simp [cLoop]))
  · rename_i h1
    simp only [Blk.go]
    split
    · exact k
    · refine same_go r _ _ _ hm ?_
      rw [e1, hn, show n = 0 by omega]
      exact kt
theorem peelT_ok {a b : Int} {t r : Blk} {d : Nat} (h : (Blk.loop a b t r).ok d) : (peelT a b t r).ok (d + 1) := by
  obtain ⟨h1, h2, h3, h4, h5⟩ := h
  have ht := ok_up t _ h4
  rw [show d - 1 + 1 = d by omega] at ht
  unfold peelT
  split
  · refine ⟨h1, by omega, ?_, ok_up r _ h5⟩
    show (t.app _).ok d
    exact ok_app ⟨h1, by omega, h3, h4, trivial⟩ ht
  · exact ⟨h1, by omega, ht, ok_up r _ h5⟩
theorem cdAt_pre (pre : List Cd) (x : Cd) (r : List Cd) : cdAt (pre ++ x :: r) pre.length = x := cdAt_get (get_pre pre x r)
theorem peelOut_loop {a b : Int} {t r : Blk} {d : Nat} (h : (Blk.loop a b t r).ok d) (pre rest : List Cd) :
    peelOut (pre ++ ((Blk.loop a b t r).flat ++ rest)) pre.length = pre ++ ((peelT a b t r).flat ++ rest) := by
  obtain ⟨h1, h2, h3, h4, h5⟩ := h
  have e0 : pre ++ ((Blk.loop a b t r).flat ++ rest) = pre ++ cLoop a b :: (t.flat ++ cEnd :: (r.flat ++ rest)) := by simp [Blk.flat]
  rw [e0]
  have ec := cdAt_pre pre (cLoop a b) (t.flat ++ cEnd :: (r.flat ++ rest))
  have hd : (pre ++ cLoop a b :: (t.flat ++ cEnd :: (r.flat ++ rest))).drop pre.length = cLoop a b :: (t.flat ++ cEnd :: (r.flat ++ rest)) := by simp
  obtain ⟨ee, e2, e3⟩ := end_iff h4 hd
  have ep : pEnd (pre ++ cLoop a b :: (t.flat ++ cEnd :: (r.flat ++ rest))) pre.length = pre.length + t.flat.length + 1 := by
    unfold pEnd; rw [ee]; simp only []; omega
  have eb : bodyL (pre ++ cLoop a b :: (t.flat ++ cEnd :: (r.flat ++ rest))) pre.length = t.flat := by
    unfold bodyL
    rw [e2, ep, show pre.length + t.flat.length + 1 - (pre.length + 1) = t.flat.length by omega, List.take_left]
  have ed : (pre ++ cLoop a b :: (t.flat ++ cEnd :: (r.flat ++ rest))).drop (pEnd (pre ++ cLoop a b :: (t.flat ++ cEnd :: (r.flat ++ rest))) pre.length) = cEnd :: (r.flat ++ rest) := by
    rw [ep, show pre.length + t.flat.length + 1 = pre.length + 1 + t.flat.length by omega]
    exact drop_skip e2
  unfold peelOut
  rw [eb, ed, ec, List.take_left]
  show pre ++ [cIf a] ++ t.flat ++ (if 1 < b then [cLoop a (b - 1)] ++ t.flat ++ [cEnd] else []) ++ cEnd :: (r.flat ++ rest) = _
  unfold peelT
  split
  · simp [Blk.flat, flat_app]
  · simp [Blk.flat]
theorem opAt_app_left {a b : List Cd} {k : Nat} (h : k < a.length) : opAt (a ++ b) k = opAt a k := by simp [opAt, List.getElem?_append_left h]
theorem opAt_app_right {a b : List Cd} {k : Nat} (h : a.length ≤ k) : opAt (a ++ b) k = opAt b (k - a.length) := by simp [opAt, List.getElem?_append_right h]
theorem opAt_cons_succ (x : Cd) (l : List Cd) (k : Nat) : opAt (x :: l) (k + 1) = opAt l k := by simp [opAt]
theorem opAt_cons_zero (x : Cd) (l : List Cd) : opAt (x :: l) 0 = x.op := by simp [opAt]
/-- Peeling a loop anywhere in a tree. -/
theorem peel_tree (b : Blk) : ∀ (d k : Nat) (pre rest : List Cd), b.ok d → k < b.flat.length → opAt b.flat k = 13 →
    ∃ b' : Blk, b'.ok (d + 1) ∧ peelOut (pre ++ (b.flat ++ rest)) (pre.length + k) = pre ++ (b'.flat ++ rest) ∧ ∀ (m : Nat) (g h : GS), m < 2 ^ 8 → SameB g h → SameB (b.go m g) (b'.go m h) := by
  induction b with
  | nil => intro d k pre rest _ h _; simp [Blk.flat] at h
  | op x r ih =>
    intro d k pre rest ⟨h1, h2, h3, h4⟩ hk ho
    simp only [Blk.flat, List.length_cons] at hk ho
    cases k with
    | zero => rw [opAt_cons_zero] at ho; omega
    | succ k =>
      rw [opAt_cons_succ] at ho
      obtain ⟨b', k1, k2, k3⟩ := ih d k (pre ++ [x]) rest h4 (by omega) ho
      refine ⟨.op x b', ⟨h1, h2, h3, k1⟩, ?_, fun m g h hm s => ?_⟩
      · simp only [List.length_append, List.length_singleton, List.append_assoc, List.singleton_append] at k2
        simp only [Blk.flat, List.cons_append]
        rw [← k2]; congr 1; omega
      · simp only [Blk.go]
        split
        · exact s
        · refine k3 _ _ _ hm ⟨by rw [s.1], ?_⟩
          have := s.2
          simp only [barr] at this
          simp only [barr, List.filter_append, this]
  | iff a t r iht ihr =>
    intro d k pre rest ⟨h1, h2, h3, h4⟩ hk ho
    simp only [Blk.flat, List.length_cons, List.length_append] at hk ho
    cases k with
    | zero => rw [opAt_cons_zero] at ho; simp [cIf] at ho
    | succ k =>
      rw [opAt_cons_succ] at ho
      by_cases hkt : k < t.flat.length
      · rw [opAt_app_left hkt] at ho
        obtain ⟨t', k1, k2, k3⟩ := iht (d - 1) k (pre ++ [cIf a]) (cEnd :: (r.flat ++ rest)) h3 hkt ho
        rw [show d - 1 + 1 = d + 1 - 1 by omega] at k1
        refine ⟨.iff a t' r, ⟨h1, by omega, k1, ok_up r _ h4⟩, ?_, fun m g h hm s => ?_⟩
        · simp only [List.length_append, List.length_singleton, List.append_assoc, List.singleton_append] at k2
          simp only [Blk.flat, List.cons_append, List.append_assoc]
          rw [← k2]; congr 1; omega
        · simp only [Blk.go]
          split
          · exact s
          · refine same_go r _ _ _ hm ?_
            rw [← s.1]
            exact k3 _ _ _ (onesOf_lt hm (by omega) a g.s) (s.on _ _ _ (by simp [cIf]) (by simp [cIf]))
      · rw [opAt_app_right (by omega)] at ho
        obtain ⟨j, hj⟩ : ∃ j, k - t.flat.length = j := ⟨_, rfl⟩
        rw [hj] at ho
        cases j with
        | zero => rw [opAt_cons_zero] at ho; simp [cEnd] at ho
        | succ j =>
          rw [opAt_cons_succ] at ho
          obtain ⟨r', k1, k2, k3⟩ := ihr d j (pre ++ (cIf a :: (t.flat ++ [cEnd]))) rest h4 (by omega) ho
          refine ⟨.iff a t r', ⟨h1, by omega, by have := ok_up t _ h3; rwa [show d - 1 + 1 = d + 1 - 1 by omega] at this, k1⟩, ?_, fun m g h hm s => ?_⟩
          · simp only [List.length_append, List.length_cons, List.length_nil, List.append_assoc, List.cons_append, List.nil_append] at k2
            simp only [Blk.flat, List.cons_append, List.append_assoc]
            rw [← k2]; congr 1; omega
          · simp only [Blk.go]
            split
            · exact s
            · refine k3 _ _ _ hm ?_
              rw [← s.1]
              exact same_go t _ _ _ (onesOf_lt hm (by omega) a g.s) (s.on _ _ _ (by simp [cIf]) (by simp [cIf]))
  | ife a t e r iht ihe ihr =>
    intro d k pre rest ⟨h1, h2, h3, h4, h5⟩ hk ho
    simp only [Blk.flat, List.length_cons, List.length_append] at hk ho
    cases k with
    | zero => rw [opAt_cons_zero] at ho; simp [cIf] at ho
    | succ k =>
      rw [opAt_cons_succ] at ho
      have ut := ok_up t _ h3
      have ue := ok_up e _ h4
      rw [show d - 1 + 1 = d + 1 - 1 by omega] at ut ue
      by_cases hkt : k < t.flat.length
      · rw [opAt_app_left hkt] at ho
        obtain ⟨t', k1, k2, k3⟩ := iht (d - 1) k (pre ++ [cIf a]) (cElse :: (e.flat ++ cEnd :: (r.flat ++ rest))) h3 hkt ho
        rw [show d - 1 + 1 = d + 1 - 1 by omega] at k1
        refine ⟨.ife a t' e r, ⟨h1, by omega, k1, ue, ok_up r _ h5⟩, ?_, fun m g h hm s => ?_⟩
        · simp only [List.length_append, List.length_singleton, List.append_assoc, List.singleton_append] at k2
          simp only [Blk.flat, List.cons_append, List.append_assoc]
          rw [← k2]; congr 1; omega
        · simp only [Blk.go]
          split
          · exact s
          · refine same_go r _ _ _ hm ?_
            rw [← s.1]
            exact same_go e _ _ _ (mdiff_lt hm) (k3 _ _ _ (onesOf_lt hm (by omega) a g.s) (s.on _ _ _ (by simp [cIf]) (by simp [cIf])))
      · rw [opAt_app_right (by omega)] at ho
        obtain ⟨j, hj⟩ : ∃ j, k - t.flat.length = j := ⟨_, rfl⟩
        rw [hj] at ho
        cases j with
        | zero => rw [opAt_cons_zero] at ho; simp [cElse] at ho
        | succ j =>
          rw [opAt_cons_succ] at ho
          by_cases hje : j < e.flat.length
          · rw [opAt_app_left hje] at ho
            obtain ⟨e', k1, k2, k3⟩ := ihe (d - 1) j (pre ++ (cIf a :: (t.flat ++ [cElse]))) (cEnd :: (r.flat ++ rest)) h4 hje ho
            rw [show d - 1 + 1 = d + 1 - 1 by omega] at k1
            refine ⟨.ife a t e' r, ⟨h1, by omega, ut, k1, ok_up r _ h5⟩, ?_, fun m g h hm s => ?_⟩
            · simp only [List.length_append, List.length_cons, List.length_nil, List.append_assoc, List.cons_append, List.nil_append] at k2
              simp only [Blk.flat, List.cons_append, List.append_assoc]
              rw [← k2]; congr 1; omega
            · simp only [Blk.go]
              split
              · exact s
              · refine same_go r _ _ _ hm ?_
                rw [← s.1]
                exact k3 _ _ _ (mdiff_lt hm) (same_go t _ _ _ (onesOf_lt hm (by omega) a g.s) (s.on _ _ _ (by simp [cIf]) (by simp [cIf])))
          · rw [opAt_app_right (by omega)] at ho
            obtain ⟨i, hi⟩ : ∃ i, j - e.flat.length = i := ⟨_, rfl⟩
            rw [hi] at ho
            cases i with
            | zero => rw [opAt_cons_zero] at ho; simp [cEnd] at ho
            | succ i =>
              rw [opAt_cons_succ] at ho
              obtain ⟨r', k1, k2, k3⟩ := ihr d i (pre ++ (cIf a :: (t.flat ++ (cElse :: (e.flat ++ [cEnd]))))) rest h5 (by omega) ho
              refine ⟨.ife a t e r', ⟨h1, by omega, ut, ue, k1⟩, ?_, fun m g h hm s => ?_⟩
              · simp only [List.length_append, List.length_cons, List.length_nil, List.append_assoc, List.cons_append, List.nil_append] at k2
                simp only [Blk.flat, List.cons_append, List.append_assoc]
                rw [← k2]; congr 1; omega
              · simp only [Blk.go]
                split
                · exact s
                · refine k3 _ _ _ hm ?_
                  rw [← s.1]
                  exact same_go e _ _ _ (mdiff_lt hm) (same_go t _ _ _ (onesOf_lt hm (by omega) a g.s) (s.on _ _ _ (by simp [cIf]) (by simp [cIf])))
  | loop a c t r iht ihr =>
    intro d k pre rest hok hk ho
    have hok' := hok
    obtain ⟨h1, h2, h3, h4, h5⟩ := hok
    simp only [Blk.flat, List.length_cons, List.length_append] at hk ho
    have ut := ok_up t _ h4
    rw [show d - 1 + 1 = d + 1 - 1 by omega] at ut
    cases k with
    | zero => exact ⟨peelT a c t r, peelT_ok hok', peelOut_loop hok' pre rest, fun m g h hm s => peelT_go h2.1 hm s⟩
    | succ k =>
      rw [opAt_cons_succ] at ho
      by_cases hkt : k < t.flat.length
      · rw [opAt_app_left hkt] at ho
        obtain ⟨t', k1, k2, k3⟩ := iht (d - 1) k (pre ++ [cLoop a c]) (cEnd :: (r.flat ++ rest)) h4 hkt ho
        rw [show d - 1 + 1 = d + 1 - 1 by omega] at k1
        refine ⟨.loop a c t' r, ⟨h1, h2, by omega, k1, ok_up r _ h5⟩, ?_, fun m g h hm s => ?_⟩
        · simp only [List.length_append, List.length_singleton, List.append_assoc, List.singleton_append] at k2
          simp only [Blk.flat, List.cons_append, List.append_assoc]
          rw [← k2]; congr 1; omega
        · simp only [Blk.go]
          split
          · exact s
          · exact same_go r _ _ _ hm (SameB.turns (f := fun m g => t.go m g) (f' := fun m g => t'.go m g) (fun m g h hm k => k3 m g h hm k) a _ _ _ _ hm (s.on _ _ _ (by simp [cLoop]) (by simp [cLoop])))
      · rw [opAt_app_right (by omega)] at ho
        obtain ⟨j, hj⟩ : ∃ j, k - t.flat.length = j := ⟨_, rfl⟩
        rw [hj] at ho
        cases j with
        | zero => rw [opAt_cons_zero] at ho; simp [cEnd] at ho
        | succ j =>
          rw [opAt_cons_succ] at ho
          obtain ⟨r', k1, k2, k3⟩ := ihr d j (pre ++ (cLoop a c :: (t.flat ++ [cEnd]))) rest h5 (by omega) ho
          refine ⟨.loop a c t r', ⟨h1, h2, by omega, ut, k1⟩, ?_, fun m g h hm s => ?_⟩
          · simp only [List.length_append, List.length_cons, List.length_nil, List.append_assoc, List.cons_append, List.nil_append] at k2
            simp only [Blk.flat, List.cons_append, List.append_assoc]
            rw [← k2]; congr 1; omega
          · simp only [Blk.go]
            split
            · exact s
            · exact k3 _ _ _ hm (SameB.turns (f := fun m g => t.go m g) (f' := fun m g => t.go m g) (fun m g h hm k => same_go t m g h hm k) a _ _ _ _ hm (s.on _ _ _ (by simp [cLoop]) (by simp [cLoop])))

theorem goS_tree' {b : Blk} {l : List Cd} {d : Nat} (hb : b.ok d) (hl : b.flat = l) (h : pv l = true) (n : Nat) (m : List Int) : goS l n m = b.go (2 ^ n - 1) ⟨LS.start n m, []⟩ := by
  obtain ⟨h1, h2⟩ := treeOf_spec h
  have s0 : stop [] := fun x q e => by cases e
  unfold goS
  rw [(flat_inj (treeOf l) 3 d b [] [] h1 hb s0 s0 (by rw [h2, hl])).1]
theorem mask_lt {n : Nat} (hn : n ≤ 8) : 2 ^ n - 1 < 2 ^ 8 := by
  have : 2 ^ n ≤ 2 ^ 8 := Nat.pow_le_pow_right (by decide) hn
  have : 0 < 2 ^ n := Nat.pow_pos (by decide)
  omega
/-- A program and the same with a peeled loop go alike. -/
theorem peel_run {l : List Cd} {at' : Int} (h : peelB l at' = true) {n : Nat} (hn : n ≤ 8) (m : List Int) : pv (peelOut l at'.toNat) = true ∧ SameB (goS l n m) (goS (peelOut l at'.toNat) n m) := by
  simp only [peelB, peelOk, Bool.and_eq_true] at h
  obtain ⟨hp, hin, ho, hp2⟩ := h
  have hi := inR_iff.1 hin
  obtain ⟨h1, h2⟩ := treeOf_spec hp
  have hk : at'.toNat < (treeOf l).flat.length := by rw [h2]; omega
  have ho' : opAt (treeOf l).flat at'.toNat = 13 := by
    rw [h2]
    have := beq_iff_eq.1 ho
    rw [← this]
    unfold cdAt opAt
    rw [List.getElem?_eq_getElem (by omega)]
  obtain ⟨b', k1, k2, k3⟩ := peel_tree (treeOf l) 3 at'.toNat [] [] h1 hk ho'
  simp only [List.nil_append, List.append_nil, List.length_nil, Nat.zero_add, h2] at k2
  refine ⟨hp2, ?_⟩
  rw [goS_tree' k1 k2.symm hp2, goS_tree' h1 h2 hp]
  exact k3 _ _ _ (mask_lt hn) (SameB.refl _)
theorem peelR_run {l : List Cd} (hp : pv l = true) (a : Int) {n : Nat} (hn : n ≤ 8) (m : List Int) : SameB (goS l n m) (goS (peelR l a) n m) := by
  unfold peelR
  rw [if_pos hp]
  split
  · rename_i h
    exact (peel_run (by simp [peelB, hp, h]) hn m).2
  · exact SameB.refl _
theorem peelN_run {n : Nat} (hn : n ≤ 8) (m : List Int) : ∀ (t : Nat) (l : List Cd), pv l = true → pv (peelN l t) = true ∧ SameB (goS l n m) (goS (peelN l t) n m)
  | 0, l, h => ⟨h, SameB.refl _⟩
  | t + 1, l, h => by
    simp only [peelN]
    split
    · exact ⟨h, SameB.refl _⟩
    · rename_i a _ _
      have h1 := peelR_ok (a := a) h
      obtain ⟨k1, k2⟩ := peelN_run hn m t _ h1
      exact ⟨k1, (peelR_run h a hn m).trans k2⟩

/-! ### How many loops -/
def countOp (l : List Cd) (o : Int) : Nat := (l.filter fun x => x.op == o).length
theorem countOp_app (a b : List Cd) (o : Int) : countOp (a ++ b) o = countOp a o + countOp b o := by simp [countOp, List.filter_append]
theorem countOp_cons (x : Cd) (l : List Cd) (o : Int) : countOp (x :: l) o = (if x.op == o then 1 else 0) + countOp l o := by
  unfold countOp
  rw [List.filter_cons]
  split <;> simp <;> omega
theorem countOp_le (l : List Cd) (o : Int) : countOp l o ≤ l.length := List.length_filter_le _ _
theorem peel_count {l : List Cd} {at' : Int} (h : peelB l at' = true) : countOp l 13 ≤ countOp (peelOut l at'.toNat) 13 ∨ (countOp l 13 = countOp (peelOut l at'.toNat) 13 + 1 ∧ (cdAt l at'.toNat).b = 1) := by
  simp only [peelB, peelOk, Bool.and_eq_true] at h
  obtain ⟨hp, hin, ho, hp2⟩ := h
  have hi := inR_iff.1 hin
  generalize hk : at'.toNat = k at *
  have hkl : k < l.length := by omega
  have hx : l[k]? = some (cdAt l k) := by unfold cdAt; rw [List.getElem?_eq_getElem hkl]
  have hv := pv_all hp _ (List.mem_of_getElem? hx)
  have ho' := beq_iff_eq.1 ho
  have hob : opB (cdAt l k) = true := by simp [opB, ho']
  obtain ⟨-, b1, b2⟩ := pEnd_bound hp hx hob
  have hb := (eq_loop hv ho').2.2
  have e1 : l = l.take k ++ cdAt l k :: (bodyL l k ++ l.drop (pEnd l k)) := by
    have e3 : l.drop (pEnd l k) = (l.drop (k + 1)).drop (pEnd l k - (k + 1)) := by rw [List.drop_drop]; congr 1; omega
    unfold bodyL
    rw [e3, List.take_append_drop, ← drop_get hx, List.take_append_drop]
  have e2 : countOp l 13 = countOp (l.take k) 13 + (1 + (countOp (bodyL l k) 13 + countOp (l.drop (pEnd l k)) 13)) := by
    conv => lhs; rw [e1]
    rw [countOp_app, countOp_cons, countOp_app, ho']
    rfl
  have e3 : countOp [cIf (cdAt l k).a] 13 = 0 := rfl
  have e4 : countOp [cLoop (cdAt l k).a ((cdAt l k).b - 1)] 13 = 1 := rfl
  have e5 : countOp [cEnd] 13 = 0 := rfl
  unfold peelOut
  by_cases h1 : 1 < (cdAt l k).b
  · rw [if_pos h1]
    simp only [countOp_app, e3, e4, e5]
    omega
  · rw [if_neg h1]
    rw [List.append_nil]
    simp only [countOp_app, e3]
    omega
theorem peel_at {l : List Cd} {at' : Int} (h : peelB l at' = true) : (peelOut l at'.toNat)[at'.toNat]? = some (cIf (cdAt l at'.toNat).a) := by
  simp only [peelB, peelOk, Bool.and_eq_true] at h
  obtain ⟨hp, hin, ho, hp2⟩ := h
  have hi := inR_iff.1 hin
  unfold peelOut
  have hl : (l.take at'.toNat).length = at'.toNat := by rw [List.length_take]; omega
  simp only [List.append_assoc]
  rw [List.getElem?_append_right (by omega), hl, Nat.sub_self]
  rfl

/-- New names for the four registers. -/
structure Names (f : Int → Int) : Prop where
  bd : ∀ r, 0 ≤ r → r ≤ 3 → 0 ≤ f r ∧ f r ≤ 3
  inj : ∀ r q, 0 ≤ r → r ≤ 3 → 0 ≤ q → q ≤ 3 → f r = f q → r = q
/-- The registers of a lane under other names. -/
def RR (f : Int → Int) (r r' : List Int) : Prop := r.length = 4 ∧ r'.length = 4 ∧ ∀ i, 0 ≤ i → i ≤ 3 → rg r' (f i) = rg r i
theorem rg_set (r : List Int) (a i v : Int) (hr : r.length = 4) (ha : 0 ≤ a ∧ a ≤ 3) (hi : 0 ≤ i ∧ i ≤ 3) : rg (r.set a.toNat v) i = if i = a then v else rg r i := by
  unfold rg
  rw [List.getD_eq_getElem?_getD, List.getD_eq_getElem?_getD, List.getElem?_set]
  by_cases e : i = a
  · subst e
    rw [if_pos rfl, if_pos (by omega), if_pos rfl]
    rfl
  · rw [if_neg (by omega), if_neg e]
theorem RR.set {f : Int → Int} (hf : Names f) {r r' : List Int} (h : RR f r r') {a : Int} (ha : 0 ≤ a ∧ a ≤ 3) (v : Int) : RR f (r.set a.toNat v) (r'.set (f a).toNat v) := by
  obtain ⟨h1, h2, h3⟩ := h
  refine ⟨by simp [h1], by simp [h2], fun i i0 i3 => ?_⟩
  rw [rg_set r' (f a) (f i) v h2 (hf.bd a ha.1 ha.2) (hf.bd i i0 i3), rg_set r a i v h1 ha ⟨i0, i3⟩, h3 i i0 i3]
  by_cases e : i = a
  · subst e; simp
  · rw [if_neg e, if_neg (fun h => e (hf.inj i a i0 i3 ha.1 ha.2 h))]
theorem ren_op (f : Int → Int) (x : Cd) : (ren f x).op = x.op := by
  unfold ren
  repeat' split
  all_goals rfl
theorem ren_simp1 {f : Int → Int} (hf : Names f) {x : Cd} (hv : cvOk x = true) (h10 : x.op ≤ 10) (id : Nat) {r r' m : List Int} (h : RR f r r') :
    RR f (simp1 x id r m).1 (simp1 (ren f x) id r' m).1 ∧ (simp1 (ren f x) id r' m).2 = (simp1 x id r m).2 ∧ (memOp x = true → rg r' (ren f x).b = rg r x.b) := by
  have ha := cvOk_a hv
  have hc := cvOk_c hv
  have hb2 := cvOk_b2 hv
  have g := h.2.2
  have S := fun v => h.set hf ha v
  have ho := op14' hv h10
  obtain ⟨o, a, b, c⟩ := x
  simp only at ha hc hb2 ho S
  have ga := g a ha.1 ha.2
  have gc := g c hc.1 hc.2
  rcases ho with rfl | rfl | rfl | rfl | rfl | rfl | rfl | rfl | rfl | rfl
  · exact ⟨S b, rfl, by simp [memOp]⟩
  · exact ⟨S id, rfl, by simp [memOp]⟩
  · have gb := g b (hb2 (by omega)).1 (hb2 (by omega)).2
    refine ⟨?_, rfl, by simp [memOp]⟩
    show RR f (r.set a.toNat _) (r'.set (f a).toNat ((rg r' (f a) + rg r' (f b)) % 256))
    rw [ga, gb]; exact S _
  · have gb := g b (hb2 (by omega)).1 (hb2 (by omega)).2
    refine ⟨?_, rfl, by simp [memOp]⟩
    show RR f (r.set a.toNat _) (r'.set (f a).toNat (rg r' (f a) * rg r' (f b) % 256))
    rw [ga, gb]; exact S _
  · have gb := g b (hb2 (by omega)).1 (hb2 (by omega)).2
    refine ⟨?_, rfl, by simp [memOp]⟩
    show RR f (r.set a.toNat _) (r'.set (f a).toNat (rg r' (f b)))
    rw [gb]; exact S _
  · have gb := g b (hb2 (by omega)).1 (hb2 (by omega)).2
    refine ⟨?_, rfl, by simp [memOp]⟩
    show RR f (r.set a.toNat _) (r'.set (f a).toNat (lessI (rg r' (f b)) (rg r' (f c))))
    rw [gb, gc]; exact S _
  · have gb := g b (hb2 (by omega)).1 (hb2 (by omega)).2
    refine ⟨?_, rfl, by simp [memOp]⟩
    show RR f (if rg r c == 0 then r else r.set a.toNat (rg r b)) (if rg r' (f c) == 0 then r' else r'.set (f a).toNat (rg r' (f b)))
    rw [gb, gc]
    cases rg r c == 0
    · exact S _
    · exact h
  · have gb := g b (hb2 (by omega)).1 (hb2 (by omega)).2
    refine ⟨?_, rfl, fun _ => gb⟩
    show RR f (r.set a.toNat _) (r'.set (f a).toNat (m.getD (rg r' (f b) % m.length).toNat 0))
    rw [gb]; exact S _
  · have gb := g b (hb2 (by omega)).1 (hb2 (by omega)).2
    refine ⟨h, ?_, fun _ => gb⟩
    show m.set (rg r' (f b) % m.length).toNat (rg r' (f a)) = m.set (rg r b % m.length).toNat (rg r a)
    rw [ga, gb]
  · exact ⟨h, rfl, by simp [memOp]⟩

/-- States that differ in the names of the registers. -/
structure RS (f : Int → Int) (n : Nat) (s t : LS) : Prop where
  ls : s.regs.length = n
  lt : t.regs.length = n
  rr : ∀ k, k < n → RR f (s.regs.getD k []) (t.regs.getD k [])
  mem : t.mem = s.mem
  beats : t.beats = s.beats
  accs : t.accs = s.accs
  phase : t.phase = s.phase
theorem getD_set_list {l : List (List Int)} {k j : Nat} (v : List Int) (hk : k < l.length) : (l.set k v).getD j [] = if j = k then v else l.getD j [] := by
  rw [List.getD_eq_getElem?_getD, List.getD_eq_getElem?_getD, List.getElem?_set]
  by_cases e : j = k
  · subst e; rw [if_pos rfl, if_pos hk, if_pos rfl]; rfl
  · rw [if_neg (fun h => e h.symm), if_neg e]
theorem RS.beat {f : Int → Int} {n : Nat} {s t : LS} (h : RS f n s t) (p m : Nat) : RS f n (beat p m s) (beat p m t) :=
  ⟨h.ls, h.lt, h.rr, h.mem, by show t.beats ++ _ = s.beats ++ _; rw [h.beats], h.accs, h.phase⟩
theorem RS.exec1 {f : Int → Int} (hf : Names f) {n : Nat} {s t : LS} (h : RS f n s t) {x : Cd} (hv : cvOk x = true) (h10 : x.op ≤ 10) {k : Nat} (hk : k < n) : RS f n (exec1 x s k) (exec1 (ren f x) t k) := by
  obtain ⟨e1, e2, e3⟩ := ren_simp1 hf hv h10 k (m := s.mem) (h.rr k hk)
  refine ⟨by simp [Proofs.Ytfgbbajkdpideaa.exec1, h.ls], by simp [Proofs.Ytfgbbajkdpideaa.exec1, h.lt], fun j hj => ?_, ?_, h.beats, ?_, h.phase⟩
  · simp only [Proofs.Ytfgbbajkdpideaa.exec1, h.mem]
    rw [getD_set_list _ (by rw [h.ls]; exact hk), getD_set_list _ (by rw [h.lt]; exact hk)]
    by_cases e : j = k
    · rw [if_pos e, if_pos e]; exact e1
    · rw [if_neg e, if_neg e]; exact h.rr j hj
  · simp only [Proofs.Ytfgbbajkdpideaa.exec1, h.mem]; exact e2
  · have em : memOp (ren f x) = memOp x := by simp [memOp, ren_op]
    simp only [Proofs.Ytfgbbajkdpideaa.exec1, em, h.accs, h.phase, h.mem, ren_op]
    cases hm : memOp x with
    | false => rfl
    | true =>
      have := e3 hm
      simp only [LS.reg, this, if_true]
theorem RS.execTo {f : Int → Int} (hf : Names f) {n : Nat} {s t : LS} (h : RS f n s t) {x : Cd} (hv : cvOk x = true) (h10 : x.op ≤ 10) (m : Nat) : ∀ k, k ≤ n → RS f n (execTo x m s k) (execTo (ren f x) m t k)
  | 0, _ => h
  | k + 1, hk => by
    have ih := RS.execTo hf h hv h10 m k (by omega)
    simp only [Proofs.Ytfgbbajkdpideaa.execTo]
    split
    · exact ih.exec1 hf hv h10 (by omega)
    · exact ih
theorem RS.execM {f : Int → Int} (hf : Names f) {n : Nat} (n8 : n ≤ 8) {s t : LS} (h : RS f n s t) {x : Cd} (hv : cvOk x = true) (h10 : x.op ≤ 10) {m : Nat} (hm : m < 2 ^ n) : RS f n (execM x m s) (execM (ren f x) m t) := by
  rw [execM_eq hm n8, execM_eq hm n8, ren_op]
  have := h.execTo hf hv h10 m n (Nat.le_refl _)
  split
  · exact ⟨this.ls, this.lt, this.rr, this.mem, this.beats, this.accs, by simp [this.phase]⟩
  · exact this
theorem RS.ones {f : Int → Int} {n : Nat} {s t : LS} (h : RS f n s t) {a : Int} (ha : 0 ≤ a ∧ a ≤ 3) {m : Nat} (hm : m < 2 ^ n) (n8 : n ≤ 8) : onesOf m (f a) t = onesOf m a s := by
  have m8 : m < 2 ^ 8 := Nat.lt_of_lt_of_le hm (Nat.pow_le_pow_right (by decide) n8)
  apply Nat.eq_of_testBit_eq
  intro i
  rw [onesOf_bit _ _ _ _ m8, onesOf_bit _ _ _ _ m8]
  by_cases hi : i < n
  · have := (h.rr i hi).2.2 a ha.1 ha.2
    simp only [LS.reg, this]
  · rw [testBit_high hm (by omega)]; rfl
/-- A tree under other names. -/
def Blk.ren (f : Int → Int) : Blk → Blk
  | .nil => .nil
  | .op x r => .op (Proofs.Ytfgbbajkdpideaa.ren f x) (r.ren f)
  | .iff a t r => .iff (f a) (t.ren f) (r.ren f)
  | .ife a t e r => .ife (f a) (t.ren f) (e.ren f) (r.ren f)
  | .loop a b t r => .loop (f a) b (t.ren f) (r.ren f)
theorem flat_ren (f : Int → Int) (b : Blk) : (b.ren f).flat = b.flat.map (ren f) := by
  induction b with
  | nil => rfl
  | op x r ih => simp [Blk.ren, Blk.flat, ih]
  | iff a t r iht ihr => simp [Blk.ren, Blk.flat, iht, ihr]; constructor <;> rfl
  | ife a t e r iht ihe ihr => simp [Blk.ren, Blk.flat, iht, ihe, ihr]; exact ⟨rfl, rfl, rfl⟩
  | loop a c t r iht ihr => simp [Blk.ren, Blk.flat, iht, ihr]; constructor <;> rfl
theorem cvOk_ren {f : Int → Int} (hf : Names f) {x : Cd} (hv : cvOk x = true) (h10 : x.op ≤ 10) : cvOk (ren f x) = true := by
  have ha := cvOk_a hv
  have hc := cvOk_c hv
  have hb2 := cvOk_b2 hv
  have ho := op14' hv h10
  obtain ⟨o, a, b, c⟩ := x
  simp only at ha hc hb2 ho
  have fa := hf.bd a ha.1 ha.2
  have fc := hf.bd c hc.1 hc.2
  rcases ho with rfl | rfl | rfl | rfl | rfl | rfl | rfl | rfl | rfl | rfl
  · simp [cvOk, inR] at hv; simp [cvOk, ren, regsN, inR, fa, hv]
  · simp [cvOk, inR] at hv; simp [cvOk, ren, regsN, inR, fa, hv]
  · have fb := hf.bd b (hb2 (by omega)).1 (hb2 (by omega)).2
    simp [cvOk, inR] at hv; simp [cvOk, ren, regsN, inR, fa, fb, hv]
  · have fb := hf.bd b (hb2 (by omega)).1 (hb2 (by omega)).2
    simp [cvOk, inR] at hv; simp [cvOk, ren, regsN, inR, fa, fb, hv]
  · have fb := hf.bd b (hb2 (by omega)).1 (hb2 (by omega)).2
    simp [cvOk, inR] at hv; simp [cvOk, ren, regsN, inR, fa, fb, hv]
  · have fb := hf.bd b (hb2 (by omega)).1 (hb2 (by omega)).2
    simp [cvOk, ren, regsN, inR, fa, fb, fc]
  · have fb := hf.bd b (hb2 (by omega)).1 (hb2 (by omega)).2
    simp [cvOk, ren, regsN, inR, fa, fb, fc]
  · have fb := hf.bd b (hb2 (by omega)).1 (hb2 (by omega)).2
    simp [cvOk, inR] at hv; simp [cvOk, ren, regsN, inR, fa, fb, hv]
  · have fb := hf.bd b (hb2 (by omega)).1 (hb2 (by omega)).2
    simp [cvOk, inR] at hv; simp [cvOk, ren, regsN, inR, fa, fb, hv]
  · simp [cvOk] at hv; simp [cvOk, ren, regsN, hv]
theorem ok_ren {f : Int → Int} (hf : Names f) (b : Blk) : ∀ d, b.ok d → (b.ren f).ok d := by
  induction b with
  | nil => intro d h; exact h
  | op x r ih => intro d ⟨h1, h2, h3, h4⟩; exact ⟨cvOk_ren hf h1 h3, by rw [ren_op]; exact h2, by rw [ren_op]; exact h3, ih d h4⟩
  | iff a t r iht ihr => intro d ⟨h1, h2, h3, h4⟩; exact ⟨hf.bd a h1.1 h1.2, h2, iht _ h3, ihr d h4⟩
  | ife a t e r iht ihe ihr => intro d ⟨h1, h2, h3, h4, h5⟩; exact ⟨hf.bd a h1.1 h1.2, h2, iht _ h3, ihe _ h4, ihr d h5⟩
  | loop a c t r iht ihr => intro d ⟨h1, h2, h3, h4, h5⟩; exact ⟨hf.bd a h1.1 h1.2, h2, h3, iht _ h4, ihr d h5⟩
theorem RS.turns {f : Int → Int} {n : Nat} (n8 : n ≤ 8) {h h' : Nat → LS → LS} (hf : ∀ m s t, m < 2 ^ n → RS f n s t → RS f n (h m s) (h' m t)) {a : Int} (ha : 0 ≤ a ∧ a ≤ 3) : ∀ (b m : Nat) (s t : LS), m < 2 ^ n → RS f n s t → RS f n (turnsOf h a b m s) (turnsOf h' (f a) b m t)
  | 0, _, _, _, _, k => k
  | b + 1, m, s, t, hm, k => by
    simp only [turnsOf]
    rw [k.ones ha hm n8]
    have hlt := onesOf_lt hm n8 a s
    exact RS.turns n8 hf ha b _ _ _ hlt (hf _ _ _ hlt k)
theorem ren_run {f : Int → Int} (hf : Names f) {n : Nat} (n8 : n ≤ 8) (b : Blk) : ∀ (d p m : Nat) (s t : LS), b.ok d → m < 2 ^ n → RS f n s t → RS f n (b.run p m s) ((b.ren f).run p m t) := by
  have hl : ∀ b : Blk, (b.ren f).flat.length = b.flat.length := fun b => by rw [flat_ren, List.length_map]
  induction b with
  | nil => intro d p m s t _ _ k; exact k
  | op x r ih =>
    intro d p m s t ⟨hv, _, h10, hr⟩ hm k
    simp only [Blk.ren, Blk.run]
    split
    · exact k
    · exact ih d _ _ _ _ hr hm ((k.beat p m).execM hf n8 hv h10 hm)
  | iff a t r iht ihr =>
    intro d p m s u ⟨ha, _, ht, hr⟩ hm k
    simp only [Blk.ren, Blk.run, hl]
    split
    · exact k
    · rw [k.ones ha hm n8]
      exact ihr d _ _ _ _ hr hm (iht _ _ _ _ _ ht (onesOf_lt hm n8 a s) (k.beat p m))
  | ife a t e r iht ihe ihr =>
    intro d p m s u ⟨ha, _, ht, he, hr⟩ hm k
    simp only [Blk.ren, Blk.run, hl]
    split
    · exact k
    · rw [k.ones ha hm n8]
      exact ihr d _ _ _ _ hr hm (ihe _ _ _ _ _ he (mdiff_lt hm) (iht _ _ _ _ _ ht (onesOf_lt hm n8 a s) (k.beat p m)))
  | loop a c t r iht ihr =>
    intro d p m s u ⟨ha, _, _, ht, hr⟩ hm k
    simp only [Blk.ren, Blk.run, hl]
    split
    · exact k
    · exact ihr d _ _ _ _ hr hm (RS.turns n8 (h := fun m s => t.run (p + 1) m s) (h' := fun m s => (t.ren f).run (p + 1) m s) (fun m s u hm k => iht _ _ _ _ _ ht hm k) ha _ _ _ _ hm (k.beat p m))

/-! ### Lists of names -/
theorem name4 : ∀ a b c d : Fin 4, nameOk [(a.val : Int), (b.val : Int), (c.val : Int), (d.val : Int)] = true → a ≠ b ∧ a ≠ c ∧ a ≠ d ∧ b ≠ c ∧ b ≠ d ∧ c ≠ d := by decide
theorem names_of {t : List Int} (h : nameOk t = true) : Names (nm t) := by
  obtain ⟨h1, h2⟩ := nameOk_all h
  match t, h1 with
  | [a, b, c, d], _ =>
    have ba := h2 a (by simp)
    have bb := h2 b (by simp)
    have bc := h2 c (by simp)
    have bd := h2 d (by simp)
    have k := name4 ⟨a.toNat, by omega⟩ ⟨b.toNat, by omega⟩ ⟨c.toNat, by omega⟩ ⟨d.toNat, by omega⟩ (by
      simp only [Int.toNat_of_nonneg ba.1, Int.toNat_of_nonneg bb.1, Int.toNat_of_nonneg bc.1, Int.toNat_of_nonneg bd.1]; exact h)
    simp only [ne_eq, Fin.mk.injEq] at k
    have e0 : nm [a, b, c, d] 0 = a := rfl
    have e1 : nm [a, b, c, d] 1 = b := rfl
    have e2 : nm [a, b, c, d] 2 = c := rfl
    have e3 : nm [a, b, c, d] 3 = d := rfl
    refine ⟨fun r r0 r3 => ?_, fun r q r0 r3 q0 q3 e => ?_⟩
    · have : r = 0 ∨ r = 1 ∨ r = 2 ∨ r = 3 := by omega
      rcases this with rfl | rfl | rfl | rfl <;> simp only [e0, e1, e2, e3] <;> assumption
    · have hr : r = 0 ∨ r = 1 ∨ r = 2 ∨ r = 3 := by omega
      have hq : q = 0 ∨ q = 1 ∨ q = 2 ∨ q = 3 := by omega
      rcases hr with rfl | rfl | rfl | rfl <;> rcases hq with rfl | rfl | rfl | rfl <;> simp only [e0, e1, e2, e3] at e <;> omega
theorem names_run {l : List Cd} {f : Int → Int} (hf : Names f) (h : pv l = true) : pv (l.map (ren f)) = true ∧ ∀ {n : Nat} (m : List Int), n ≤ 8 → RS f n (lockS l n m) (lockS (l.map (ren f)) n m) := by
  obtain ⟨h1, h2⟩ := treeOf_spec h
  have e : ((treeOf l).ren f).flat = l.map (ren f) := by rw [flat_ren, h2]
  have ok := ok_ren hf _ _ h1
  have hp : pv (l.map (ren f)) = true := pv_tree.2 ⟨by rw [List.length_map]; exact (pv_iff.1 h).1, _, ok, e⟩
  refine ⟨hp, fun {n} m n8 => ?_⟩
  have ht := treeOf_eq ok e hp
  unfold lockS runT
  rw [ht]
  refine ren_run hf n8 _ 3 _ _ _ _ h1 (by have : 0 < 2 ^ n := Nat.pow_pos (by decide); omega) ⟨by simp [LS.start], by simp [LS.start], fun k hk => ?_, rfl, rfl, rfl, rfl⟩
  have e2 : (LS.start n m).regs.getD k [] = [0, 0, 0, 0] := by simp [LS.start, List.getD_eq_getElem?_getD, hk]
  rw [e2]
  have z : ∀ i, 0 ≤ i → i ≤ 3 → rg [0, 0, 0, 0] i = 0 := fun i i0 i3 => by
    have : i = 0 ∨ i = 1 ∨ i = 2 ∨ i = 3 := by omega
    rcases this with rfl | rfl | rfl | rfl <;> rfl
  exact ⟨rfl, rfl, fun i i0 i3 => by rw [z i i0 i3, z _ (hf.bd i i0 i3).1 (hf.bd i i0 i3).2]⟩
/-- Barriers are split or not under any names. -/
theorem split_ren {f : Int → Int} (l : List Cd) (n : Nat) (bs : List (Nat × Nat)) : splitB (l.map (ren f)) n bs = splitB l n bs := by
  have : ∀ p, opAt (l.map (ren f)) p = opAt l p := fun p => by
    simp only [opAt, List.getElem?_map]
    cases l[p]? with
    | none => rfl
    | some x => exact ren_op f x
  simp only [splitB, this]

theorem ren_ren (f g : Int → Int) (x : Cd) : ren f (ren g x) = ren (fun r => f (g r)) x := by
  have h := ren_op g x
  by_cases h1 : regsN x.op = 1
  · simp [ren, h1]
  · by_cases h2 : regsN x.op = 2
    · simp [ren, h2]
    · by_cases h3 : regsN x.op = 3
      · simp [ren, h3]
      · simp [ren, h1, h2, h3]
theorem ren_id (x : Cd) : ren (fun r => r) x = x := by
  unfold ren
  split
  · rfl
  split
  · rfl
  split <;> rfl
theorem regs_bd {x : Cd} (h : cvOk x = true) : (2 ≤ regsN x.op → 0 ≤ x.b ∧ x.b ≤ 3) := by
  intro h2
  have h3 : x.op = 3 ∨ x.op = 4 ∨ x.op = 5 ∨ x.op = 6 ∨ x.op = 7 ∨ x.op = 8 ∨ x.op = 9 := by
    rcases cvOk_forms h with h | h | h | h | h | h
    all_goals
      unfold regsN at h2
      repeat' split at h2
      all_goals first | omega | (simp_all; try omega)
  exact cvOk_b2 h h3
theorem swapTo_back : ∀ a b r : Fin 4, nm (swapTo a.val b.val) (nm (swapTo a.val b.val) r.val) = (r.val : Int) := by decide
theorem swapTo_comm : ∀ a b : Fin 4, swapTo (a.val : Int) (b.val : Int) = swapTo b.val a.val := by decide
theorem swapTo_self : ∀ a r : Fin 4, nm (swapTo (a.val : Int) (a.val : Int)) r.val = (r.val : Int) := by decide
theorem swap_names : ∀ a b : Fin 4, (∀ r : Fin 4, 0 ≤ nm (swapTo a.val b.val) r.val ∧ nm (swapTo a.val b.val) r.val ≤ 3) ∧ (∀ r q : Fin 4, nm (swapTo a.val b.val) r.val = nm (swapTo a.val b.val) q.val → r = q) := by decide
theorem fin4 {a : Int} (h0 : 0 ≤ a) (h3 : a ≤ 3) : ∃ n : Fin 4, a = n.val := ⟨⟨a.toNat, by omega⟩, by simp; omega⟩
theorem Names.swap {a b : Int} (ha : 0 ≤ a ∧ a ≤ 3) (hb : 0 ≤ b ∧ b ≤ 3) : Names (nm (swapTo a b)) := by
  obtain ⟨x, rfl⟩ := fin4 ha.1 ha.2
  obtain ⟨y, rfl⟩ := fin4 hb.1 hb.2
  obtain ⟨h1, h2⟩ := swap_names x y
  refine ⟨fun r r0 r3 => ?_, fun r q r0 r3 q0 q3 e => ?_⟩
  · obtain ⟨z, rfl⟩ := fin4 r0 r3
    exact h1 z
  · obtain ⟨z, rfl⟩ := fin4 r0 r3
    obtain ⟨u, rfl⟩ := fin4 q0 q3
    rw [h2 z u e]
theorem map_ren_id {l : List Cd} {f : Int → Int} (hl : ∀ x ∈ l, cvOk x = true) (hf : ∀ r, 0 ≤ r → r ≤ 3 → f r = r) : l.map (ren f) = l := by
  have : ∀ x ∈ l, ren f x = x := fun x hx => by
    have ho := hl x hx
    have h := ren_congr (f := f) (g := fun r => r) (x := x) (fun _ => hf _ (cvOk_a ho).1 (cvOk_a ho).2) (fun h => hf _ (regs_bd ho h).1 (regs_bd ho h).2) (fun _ => hf _ (cvOk_c ho).1 (cvOk_c ho).2)
    rw [h, ren_id]
  conv => rhs; rw [← List.map_id l]
  exact List.map_congr_left this
theorem swap_law {l : List Cd} {a b : Int} (h : swapL l a b ≠ []) : swapL (swapL l a b) a b = l ∧ swapL l b a = swapL l a b ∧ swapL l a a = l := by
  unfold swapL at h
  split at h
  · rename_i hc
    simp only [Bool.and_eq_true] at hc
    obtain ⟨hp, ha, hb⟩ := hc
    have ha' := inR_iff.1 ha
    have hb' := inR_iff.1 hb
    have hcv := pv_all hp
    have hN := (names_run (Names.swap ha' hb') hp).1
    obtain ⟨x, hx⟩ := fin4 ha'.1 ha'.2
    obtain ⟨y, hy⟩ := fin4 hb'.1 hb'.2
    have e : swapL l a b = l.map (ren (nm (swapTo a b))) := by simp [swapL, hp, ha, hb]
    refine ⟨?_, ?_, ?_⟩
    · rw [e]
      have : swapL (l.map (ren (nm (swapTo a b)))) a b = (l.map (ren (nm (swapTo a b)))).map (ren (nm (swapTo a b))) := by simp [swapL, hN, ha, hb]
      rw [this, List.map_map]
      have hf : (ren (nm (swapTo a b)) ∘ ren (nm (swapTo a b))) = ren (fun r => nm (swapTo a b) (nm (swapTo a b) r)) := by
        funext z
        exact ren_ren _ _ z
      rw [hf]
      refine map_ren_id hcv fun r r0 r3 => ?_
      obtain ⟨z, rfl⟩ := fin4 r0 r3
      rw [hx, hy]
      exact swapTo_back x y z
    · rw [e]
      have : swapL l b a = l.map (ren (nm (swapTo b a))) := by simp [swapL, hp, ha, hb]
      rw [this, hx, hy, swapTo_comm x y]
    · have : swapL l a a = l.map (ren (nm (swapTo a a))) := by simp [swapL, hp, ha]
      rw [this]
      refine map_ren_id hcv fun r r0 r3 => ?_
      obtain ⟨z, rfl⟩ := fin4 r0 r3
      rw [hx]
      exact swapTo_self x z
  · exact absurd rfl h

/-- Register q is 0 in all lanes. -/
def ZR (q : Int) (s : LS) : Prop := ∀ k, rg (s.regs.getD k []) q = 0
def noW (q : Int) (x : Cd) : Prop := 1 ≤ x.op → x.op ≤ 8 → 0 ≤ x.a ∧ x.a ≠ q
theorem rg_set_ne (r : List Int) {a q : Int} (v : Int) (ha : 0 ≤ a) (hq : 0 ≤ q) (hne : a ≠ q) : rg (r.set a.toNat v) q = rg r q := by
  unfold rg
  rw [List.getD_eq_getElem?_getD, List.getD_eq_getElem?_getD, List.getElem?_set_ne (by omega)]
theorem simp1_zero {q : Int} (hq : 0 ≤ q) {x : Cd} (hx : noW q x) (id : Nat) {r m : List Int} (h : rg r q = 0) : rg (simp1 x id r m).1 q = 0 := by
  have key : 1 ≤ x.op → x.op ≤ 8 → ∀ v, rg (r.set x.a.toNat v) q = 0 := fun h1 h8 v => by rw [rg_set_ne r v (hx h1 h8).1 hq (hx h1 h8).2]; exact h
  unfold simp1
  repeat' split
  all_goals first
    | exact h
    | (rename_i e; simp at e; exact key (by omega) (by omega) _)
    | (rename_i e e2; simp at e; exact key (by omega) (by omega) _)
theorem exec1_zero {q : Int} (hq : 0 ≤ q) {x : Cd} (hx : noW q x) (k : Nat) {s : LS} (h : ZR q s) : ZR q (exec1 x s k) := by
  intro j
  unfold exec1
  simp only
  rw [List.getD_eq_getElem?_getD, List.getElem?_set]
  split
  · rename_i e
    subst e
    split
    · exact simp1_zero hq hx k (h k)
    · have := h k
      rename_i hlt
      simp at hlt
      rw [List.getD_eq_getElem?_getD, List.getElem?_eq_none hlt] at this
      exact this
  · rw [← List.getD_eq_getElem?_getD]
    exact h j
theorem execM_zeroU {q : Int} (hq : 0 ≤ q) {x : Cd} (hx : noW q x) (m : Nat) {s : LS} (h : ZR q s) : ZR q (execM x m s) := by
  have key : ∀ (l : List Nat) (s : LS), ZR q s → ZR q (l.foldl (exec1 x) s) := by
    intro l
    induction l with
    | nil => exact fun s h => h
    | cons k l ih => exact fun s h => ih _ (exec1_zero hq hx k h)
  unfold execM
  simp only
  split
  · exact key _ _ h
  · exact key _ _ h
theorem turns_zeroR {q : Int} {f : Nat → LS → LS} (hf : ∀ m s, ZR q s → ZR q (f m s)) (a : Int) : ∀ (b m : Nat) (s : LS), ZR q s → ZR q (turnsOf f a b m s)
  | 0, _, _, h => h
  | b + 1, m, s, h => turns_zeroR hf a b _ _ (hf _ _ h)
theorem run_zeroR {q : Int} (hq : 0 ≤ q) (b : Blk) : ∀ (p m : Nat) (s : LS), (∀ x ∈ b.flat, noW q x) → ZR q s → ZR q (b.run p m s) := by
  induction b with
  | nil => exact fun p m s _ h => h
  | op x r ih =>
    intro p m s hx h
    simp only [Blk.run]
    split
    · exact h
    · exact ih _ _ _ (fun y hy => hx y (by simp [Blk.flat, hy])) (execM_zeroU hq (hx x (by simp [Blk.flat])) m h)
  | iff a t r iht ihr =>
    intro p m s hx h
    simp only [Blk.run]
    split
    · exact h
    · exact ihr _ _ _ (fun y hy => hx y (by simp [Blk.flat, hy])) (iht _ _ _ (fun y hy => hx y (by simp [Blk.flat, hy])) h)
  | ife a t e r iht ihe ihr =>
    intro p m s hx h
    simp only [Blk.run]
    split
    · exact h
    · exact ihr _ _ _ (fun y hy => hx y (by simp [Blk.flat, hy])) (ihe _ _ _ (fun y hy => hx y (by simp [Blk.flat, hy])) (iht _ _ _ (fun y hy => hx y (by simp [Blk.flat, hy])) h))
  | loop a c t r iht ihr =>
    intro p m s hx h
    simp only [Blk.run]
    split
    · exact h
    · exact ihr _ _ _ (fun y hy => hx y (by simp [Blk.flat, hy])) (turns_zeroR (fun m s h => iht _ _ _ (fun y hy => hx y (by simp [Blk.flat, hy])) h) a _ _ _ h)
/-- THE LAW: a register that is not used is 0 in all lanes after a run. -/
theorem used_law {l : List Cd} (h : pv l = true) {q : Nat} (hq : (usedOf l).testBit q = false) (n : Nat) (m : List Int) (k : Nat) : rg ((lockS l n m).regs.getD k []) q = 0 := by
  obtain ⟨-, e⟩ := treeOf_spec h
  have hw : ∀ x ∈ l, (reads x ||| wset x).testBit q = false := by
    intro x hx
    have key : ∀ (l : List Cd) (s : Nat), (l.foldl (fun s x => s ||| (reads x ||| wset x)) s).testBit q = false → s.testBit q = false ∧ ∀ x ∈ l, (reads x ||| wset x).testBit q = false := by
      intro l
      induction l with
      | nil => exact fun s h => ⟨h, by simp⟩
      | cons y l ih =>
        intro s h
        obtain ⟨h1, h2⟩ := ih _ h
        rw [Nat.testBit_or, Bool.or_eq_false_iff] at h1
        refine ⟨h1.1, fun z hz => ?_⟩
        rcases List.mem_cons.1 hz with rfl | hz
        · exact h1.2
        · exact h2 z hz
    exact (key l 0 hq).2 x hx
  have hn : ∀ x ∈ (treeOf l).flat, noW q x := by
    rw [e]
    intro x hx h1 h8
    have hv := pv_all h x hx
    have ha := cvOk_a hv
    refine ⟨ha.1, fun e => ?_⟩
    have := hw x hx
    rw [Nat.testBit_or, Bool.or_eq_false_iff] at this
    have h3 := this.2
    unfold wset at h3
    rw [if_pos (by rw [hv, Bool.true_and]; exact inR_iff.2 ⟨h1, h8⟩)] at h3
    have : x.a.toNat = q := by omega
    rw [this] at h3
    simp at h3
  refine run_zeroR (by omega) _ 0 _ _ hn (fun k => ?_) k
  by_cases hk : k < n
  · have e2 : (LS.start n m).regs.getD k [] = [0, 0, 0, 0] := by simp [LS.start, List.getD_eq_getElem?_getD, hk]
    rw [e2]
    unfold rg
    rw [List.getD_eq_getElem?_getD]
    have : q = 0 ∨ q = 1 ∨ q = 2 ∨ q = 3 ∨ 4 ≤ q := by omega
    rcases this with rfl | rfl | rfl | rfl | h4
    · rfl
    · rfl
    · rfl
    · rfl
    · rw [List.getElem?_eq_none (by simp; omega)]
      rfl
  · have e2 : (LS.start n m).regs.getD k [] = [] := by simp [LS.start, List.getD_eq_getElem?_getD, hk]
    rw [e2]
    rfl

/-- The registers of a set under new names. -/
def img (f : Int → Int) (u : Nat) : Nat :=
  (((if u.testBit 0 then 2 ^ (f 0).toNat else 0) ||| (if u.testBit 1 then 2 ^ (f 1).toNat else 0)) ||| (if u.testBit 2 then 2 ^ (f 2).toNat else 0)) ||| (if u.testBit 3 then 2 ^ (f 3).toNat else 0)
theorem ite_or (x y : Bool) (p : Nat) : (if (x || y) = true then p else 0) = ((if x = true then p else 0) ||| (if y = true then p else 0)) := by
  cases x <;> cases y <;> simp
theorem img_or (f : Int → Int) (a b : Nat) : img f (a ||| b) = img f a ||| img f b := by
  simp only [img, Nat.testBit_or, ite_or]
  ac_rfl
theorem img_zero (f : Int → Int) : img f 0 = 0 := by simp [img]
theorem img_pow (f : Int → Int) {a : Int} (h : 0 ≤ a ∧ a ≤ 3) : img f (2 ^ a.toNat) = 2 ^ (f a).toNat := by
  rcases pow4 h with rfl | rfl | rfl | rfl <;> simp [img, Nat.testBit, Nat.shiftRight_eq_div_pow]
theorem used_ren {f : Int → Int} {x : Cd} (hv : cvOk x = true) (hv' : cvOk (ren f x) = true) : (reads (ren f x) ||| wset (ren f x)) = img f (reads x ||| wset x) := by
  have ha := img_pow f (cvOk_a hv)
  have hc := img_pow f (cvOk_c hv)
  have hb2 := cvOk_b2 hv
  have ho := cvOk_op hv
  obtain ⟨o, a, b, c⟩ := x
  simp only at ha hc hb2 ho
  have h14 : o = 1 ∨ o = 2 ∨ o = 3 ∨ o = 4 ∨ o = 5 ∨ o = 6 ∨ o = 7 ∨ o = 8 ∨ o = 9 ∨ o = 10 ∨ o = 11 ∨ o = 12 ∨ o = 13 ∨ o = 14 := by omega
  rcases h14 with rfl | rfl | rfl | rfl | rfl | rfl | rfl | rfl | rfl | rfl | rfl | rfl | rfl | rfl
  · have e : ren f ⟨1, a, b, c⟩ = ⟨1, f a, b, c⟩ := rfl
    rw [e] at hv' ⊢
    simp [reads, wset, hv, hv', inR, ha]
  · have e : ren f ⟨2, a, b, c⟩ = ⟨2, f a, b, c⟩ := rfl
    rw [e] at hv' ⊢
    simp [reads, wset, hv, hv', inR, ha]
  · have hb := img_pow f (hb2 (by omega))
    have e : ren f ⟨3, a, b, c⟩ = ⟨3, f a, f b, c⟩ := rfl
    rw [e] at hv' ⊢
    simp [reads, wset, hv, hv', inR, img_or, ha, hb]
  · have hb := img_pow f (hb2 (by omega))
    have e : ren f ⟨4, a, b, c⟩ = ⟨4, f a, f b, c⟩ := rfl
    rw [e] at hv' ⊢
    simp [reads, wset, hv, hv', inR, img_or, ha, hb]
  · have hb := img_pow f (hb2 (by omega))
    have e : ren f ⟨5, a, b, c⟩ = ⟨5, f a, f b, c⟩ := rfl
    rw [e] at hv' ⊢
    simp [reads, wset, hv, hv', inR, img_or, ha, hb]
  · have hb := img_pow f (hb2 (by omega))
    have e : ren f ⟨6, a, b, c⟩ = ⟨6, f a, f b, f c⟩ := rfl
    rw [e] at hv' ⊢
    simp [reads, wset, hv, hv', inR, img_or, ha, hb, hc]
  · have hb := img_pow f (hb2 (by omega))
    have e : ren f ⟨7, a, b, c⟩ = ⟨7, f a, f b, f c⟩ := rfl
    rw [e] at hv' ⊢
    simp [reads, wset, hv, hv', inR, img_or, ha, hb, hc]
  · have hb := img_pow f (hb2 (by omega))
    have e : ren f ⟨8, a, b, c⟩ = ⟨8, f a, f b, c⟩ := rfl
    rw [e] at hv' ⊢
    simp [reads, wset, hv, hv', inR, img_or, ha, hb]
  · have hb := img_pow f (hb2 (by omega))
    have e : ren f ⟨9, a, b, c⟩ = ⟨9, f a, f b, c⟩ := rfl
    rw [e] at hv' ⊢
    simp [reads, wset, hv, hv', inR, img_or, ha, hb]
  · have e : ren f ⟨10, a, b, c⟩ = ⟨10, a, b, c⟩ := rfl
    rw [e]
    simp [reads, wset, hv, inR, img_zero]
  · have e : ren f ⟨11, a, b, c⟩ = ⟨11, f a, b, c⟩ := rfl
    rw [e] at hv' ⊢
    simp [reads, wset, hv, hv', inR, ha]
  · have e : ren f ⟨12, a, b, c⟩ = ⟨12, a, b, c⟩ := rfl
    rw [e]
    simp [reads, wset, hv, inR, img_zero]
  · have e : ren f ⟨13, a, b, c⟩ = ⟨13, f a, b, c⟩ := rfl
    rw [e] at hv' ⊢
    simp [reads, wset, hv, hv', inR, ha]
  · have e : ren f ⟨14, a, b, c⟩ = ⟨14, a, b, c⟩ := rfl
    rw [e]
    simp [reads, wset, hv, inR, img_zero]
theorem usedOf_ren {f : Int → Int} {l : List Cd} (h : ∀ x ∈ l, cvOk x = true) (h' : ∀ x ∈ l, cvOk (ren f x) = true) : usedOf (l.map (ren f)) = img f (usedOf l) := by
  unfold usedOf
  have key : ∀ (m : List Cd) (s : Nat), (∀ x ∈ m, cvOk x = true) → (∀ x ∈ m, cvOk (ren f x) = true) → (m.map (ren f)).foldl (fun s x => s ||| (reads x ||| wset x)) (img f s) = img f (m.foldl (fun s x => s ||| (reads x ||| wset x)) s) := by
    intro m
    induction m with
    | nil => intro s _ _; rfl
    | cons x m ih =>
      intro s hv hv'
      simp only [List.map_cons, List.foldl_cons]
      rw [used_ren (hv x List.mem_cons_self) (hv' x List.mem_cons_self), ← img_or]
      exact ih _ (fun y hy => hv y (List.mem_cons_of_mem _ hy)) (fun y hy => hv' y (List.mem_cons_of_mem _ hy))
  have := key l 0 h h'
  rwa [img_zero] at this
theorem pack_set : ∀ u : Fin 16, (img (nm (packSi u.val 4).2) u.val) &&& (img (nm (packSi u.val 4).2) u.val + 1) = 0 := by decide +kernel
theorem pack_fix : ∀ (u : Fin 16) (r : Fin 4), (img (nm (packSi u.val 4).2) u.val).testBit r.val = true → nm (packSi (img (nm (packSi u.val 4).2) u.val) 4).2 (r.val : Int) = (r.val : Int) := by decide +kernel
theorem packL_eq {l : List Cd} (hp : pv l = true) : packL l = l.map (ren (nm (packSt (usedOf l) 8).2)) := by
  have hok := packSt_ok ⟨usedOf l, usedOf_lt l⟩
  simp only at hok
  rw [← pack_same hp, renameL, hp, hok]
  rfl
theorem packL_ok {l : List Cd} (hp : pv l = true) : pv (packL l) = true := by
  rw [packL_eq hp]
  exact (names_run (names_of (packSt_ok ⟨usedOf l, usedOf_lt l⟩)) hp).1
theorem packL_run {l : List Cd} (hp : pv l = true) {n : Nat} (hn : n ≤ 8) (m : List Int) : (lockS (packL l) n m).mem = (lockS l n m).mem ∧ (lockS (packL l) n m).beats = (lockS l n m).beats ∧ (lockS (packL l) n m).accs = (lockS l n m).accs ∧ ∀ bs, splitB (packL l) n bs = splitB l n bs := by
  rw [packL_eq hp]
  have := (names_run (names_of (packSt_ok ⟨usedOf l, usedOf_lt l⟩)) hp).2 (n := n) m hn
  exact ⟨this.mem, this.beats, this.accs, fun bs => split_ren l n bs⟩
theorem packL_used {l : List Cd} (hp : pv l = true) : usedOf (packL l) = img (nm (packSi (usedOf l) 4).2) (usedOf l) := by
  have hq := packL_ok hp
  have e : packL l = l.map (ren (nm (packSi (usedOf l) 4).2)) := by simp [packL, hp]
  rw [e] at hq ⊢
  exact usedOf_ren (pv_all hp) (fun x hx => pv_all hq _ (List.mem_map.2 ⟨x, hx, rfl⟩))
theorem packL_set {l : List Cd} (hp : pv l = true) : usedOf (packL l) &&& (usedOf (packL l) + 1) = 0 := by
  rw [packL_used hp]
  exact pack_set ⟨usedOf l, usedOf_lt l⟩
theorem packL_twice {l : List Cd} (hp : pv l = true) : packL (packL l) = packL l := by
  have hq := packL_ok hp
  have hu := packL_used hp
  have e0 : ∀ m : List Cd, pv m = true → packL m = m.map (ren (nm (packSi (usedOf m) 4).2)) := fun m hm => by
    unfold packL
    rw [if_pos hm]
  rw [e0 _ hq]
  have : (packL l).map (ren (nm (packSi (usedOf (packL l)) 4).2)) = (packL l).map (fun x => x) := by
    refine List.map_congr_left fun x hx => ?_
    obtain ⟨r1, r2, r3⟩ := regs_used (pv_all hq x hx)
    have key : ∀ z : Int, (reads x ||| wset x).testBit z.toNat = true ∧ 0 ≤ z ∧ z ≤ 3 → nm (packSi (usedOf (packL l)) 4).2 z = z := by
      intro z hz
      have h1 := used_mem hx _ hz.1
      rw [hu] at h1 ⊢
      have := pack_fix ⟨usedOf l, usedOf_lt l⟩ ⟨z.toNat, by omega⟩ h1
      simp only [Int.toNat_of_nonneg hz.2.1] at this
      exact this
    exact (ren_congr (g := fun r => r) (fun h => key _ (r1 h)) (fun h => key _ (r2 h)) (fun h => key _ (r3 h))).trans (ren_id x)
  rw [this, List.map_id']

end Go.Proofs.Ytfgbbajkdpideaa
