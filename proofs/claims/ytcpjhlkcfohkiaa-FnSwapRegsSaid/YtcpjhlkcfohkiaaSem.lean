/- Runs in lockstep without places: plain Lean, no program in sight. -/
import Derived.Test.YtcpjhlkcfohkiaaLock0
namespace Go.Proofs.Ytcpjhlkcfohkiaa
set_option linter.unusedVariables false
set_option linter.unusedSimpArgs false

/-- A state (its steps are left empty), and the instructions that have been executed, with their masks. -/
structure GS where
  s : LS
  ev : List (Cd × Nat)
def GS.on (x : Cd) (m : Nat) (g : GS) : GS := ⟨g.s, g.ev ++ [(x, m)]⟩
def turnsG (f : Nat → GS → GS) (a : Int) : Nat → Nat → GS → GS
  | 0, _, g => g
  | n + 1, m, g => turnsG f a n (onesOf m a g.s) (f (onesOf m a g.s) g)
def Blk.go : Blk → Nat → GS → GS
  | .nil, _, g => g
  | .op x r, m, g => if m = 0 then g else r.go m ⟨execM x m g.s, g.ev ++ [(x, m)]⟩
  | .iff a t r, m, g => if m = 0 then g else r.go m (t.go (onesOf m a g.s) (g.on (cIf a) m))
  | .ife a t e r, m, g => if m = 0 then g else r.go m (e.go (mdiff m (onesOf m a g.s)) (t.go (onesOf m a g.s) (g.on (cIf a) m)))
  | .loop a b t r, m, g => if m = 0 then g else r.go m (turnsG (fun m g => t.go m g) a b.toNat m (g.on (cLoop a b) m))
theorem go_zero (b : Blk) (g : GS) : b.go 0 g = g := by cases b <;> simp [Blk.go]

def nb (s : LS) : LS := { s with beats := [] }
theorem ones_nb (m : Nat) (a : Int) (s : LS) : onesOf m a (nb s) = onesOf m a s := rfl
theorem exec1_nb (x : Cd) (s : LS) (k : Nat) : exec1 x (nb s) k = nb (exec1 x s k) := rfl
theorem execTo_nb (x : Cd) (m : Nat) (s : LS) : ∀ k, execTo x m (nb s) k = nb (execTo x m s k)
  | 0 => rfl
  | k + 1 => by
    simp only [execTo, execTo_nb x m s k]
    split <;> rfl
theorem execM_nb (x : Cd) (m : Nat) (s : LS) : execM x m (nb s) = nb (execM x m s) := by
  unfold execM
  rw [exec_to, exec_to, execTo_nb]
  dsimp only
  split <;> rfl
theorem nb_beat (p m : Nat) (s : LS) : nb (beat p m s) = nb s := rfl
def evOf (l : List Cd) (bs : List (Nat × Nat)) : List (Cd × Nat) := bs.map fun q => (cdAt l q.1, q.2)
theorem evOf_snoc (l : List Cd) (bs : List (Nat × Nat)) (p m : Nat) : evOf l (bs ++ [(p, m)]) = evOf l bs ++ [(cdAt l p, m)] := by simp [evOf]
/-- A state without places. -/
def GS.of (l : List Cd) (s : LS) : GS := ⟨nb s, evOf l s.beats⟩
theorem of_beat (l : List Cd) (p m : Nat) (s : LS) : GS.of l (beat p m s) = (GS.of l s).on (cdAt l p) m := by
  simp only [GS.of, GS.on, nb_beat]
  show GS.mk _ (evOf l (s.beats ++ [(p, m)])) = _
  rw [evOf_snoc]
theorem turns_go {f : Nat → LS → LS} {h : Nat → GS → GS} {l : List Cd} (hf : ∀ m s, GS.of l (f m s) = h m (GS.of l s)) (a : Int) : ∀ (b m : Nat) (s : LS), GS.of l (turnsOf f a b m s) = turnsG h a b m (GS.of l s)
  | 0, _, _ => rfl
  | b + 1, m, s => by
    simp only [turnsOf, turnsG]
    rw [turns_go hf a b, hf]
    rfl
theorem run_go {l : List Cd} (b : Blk) : ∀ (d p m : Nat) (rest : List Cd) (s : LS), b.ok d → l.drop p = b.flat ++ rest → GS.of l (b.run p m s) = b.go m (GS.of l s) := by
  induction b with
  | nil => intro d p m rest s _ _; rfl
  | op x r ih =>
    intro d p m rest s ⟨_, _, _, hr⟩ h
    obtain ⟨h1, h2, _⟩ := drop_cons h
    simp only [Blk.run, Blk.go]
    split
    · rfl
    · rw [ih d (p + 1) m rest _ hr h2]
      congr 1
      show GS.mk _ _ = _
      rw [← execM_nb, execM_beats, nb_beat]
      show GS.mk _ (evOf l (s.beats ++ [(p, m)])) = _
      rw [evOf_snoc, cdAt_get h1]
      rfl
  | iff a t r iht ihr =>
    intro d p m rest s ⟨_, _, ht, hr⟩ h
    have h' : l.drop p = cIf a :: (t.flat ++ cEnd :: (r.flat ++ rest)) := by rw [h]; simp [Blk.flat]
    obtain ⟨_, h2, h3⟩ := end_iff ht h'
    simp only [Blk.run, Blk.go]
    split
    · rfl
    · rw [ihr d _ m rest _ hr h3, iht _ _ _ _ _ ht h2, of_beat, cdAt_get (drop_cons h').1]
      rfl
  | ife a t e r iht ihe ihr =>
    intro d p m rest s ⟨_, _, ht, he, hr⟩ h
    have h' : l.drop p = cIf a :: (t.flat ++ cElse :: (e.flat ++ cEnd :: (r.flat ++ rest))) := by rw [h]; simp [Blk.flat]
    obtain ⟨_, h2, h3, h4⟩ := end_ife ht he h'
    simp only [Blk.run, Blk.go]
    split
    · rfl
    · rw [ihr d _ m rest _ hr h4, ihe _ _ _ _ _ he h3, iht _ _ _ _ _ ht h2, of_beat, cdAt_get (drop_cons h').1]
      rfl
  | loop a c t r iht ihr =>
    intro d p m rest s ⟨_, _, _, ht, hr⟩ h
    have h' : l.drop p = cLoop a c :: (t.flat ++ cEnd :: (r.flat ++ rest)) := by rw [h]; simp [Blk.flat]
    obtain ⟨_, h2, h3⟩ := end_iff ht h'
    simp only [Blk.run, Blk.go]
    split
    · rfl
    · rw [ihr d _ m rest _ hr h3, turns_go (h := fun m g => t.go m g) (fun m s => iht _ _ m _ s ht h2), of_beat, cdAt_get (drop_cons h').1]

/-- A run of a valid program, without places. -/
noncomputable def goS (l : List Cd) (n : Nat) (m : List Int) : GS := (treeOf l).go (2 ^ n - 1) ⟨LS.start n m, []⟩
theorem goS_eq {l : List Cd} (h : pv l = true) (n : Nat) (m : List Int) : goS l n m = GS.of l (lockS l n m) := by
  obtain ⟨h1, h2⟩ := treeOf_spec h
  unfold goS lockS runT
  rw [run_go (treeOf l) 3 0 _ [] _ h1 (by simp [h2])]
  rfl

/-! ### A program has one tree -/
def stop (r : List Cd) : Prop := ∀ x q, r = x :: q → x.op = 14 ∨ x.op = 12
theorem flat_inj (b : Blk) : ∀ (d d' : Nat) (b' : Blk) (r r' : List Cd), b.ok d → b'.ok d' → stop r → stop r' → b.flat ++ r = b'.flat ++ r' → b = b' ∧ r = r' := by
  induction b with
  | nil =>
    intro d d' b' r r' _ hb' hs _ h
    cases b' with
    | nil => exact ⟨rfl, h⟩
    | op x q => have := hs _ _ h; obtain ⟨_, _, h10, _⟩ := hb'; omega
    | iff a t q => have := hs _ _ h; simp [cIf] at this
    | ife a t e q => have := hs _ _ h; simp [cIf] at this
    | loop a c t q => have := hs _ _ h; simp [cLoop] at this
  | op x q ih =>
    intro d d' b' r r' hb hb' hs hs' h
    obtain ⟨_, _, h10, hq⟩ := hb
    cases b' with
    | nil => have := hs' _ _ h.symm; omega
    | op y q' =>
      simp only [Blk.flat, List.cons_append, List.cons.injEq] at h
      obtain ⟨e1, e2⟩ := ih _ _ _ _ _ hq hb'.2.2.2 hs hs' h.2
      exact ⟨by rw [h.1, e1], e2⟩
    | iff a t q' => simp only [Blk.flat, List.cons_append, List.cons.injEq] at h; rw [h.1] at h10; simp [cIf] at h10
    | ife a t e q' => simp only [Blk.flat, List.cons_append, List.cons.injEq] at h; rw [h.1] at h10; simp [cIf] at h10
    | loop a c t q' => simp only [Blk.flat, List.cons_append, List.cons.injEq] at h; rw [h.1] at h10; simp [cLoop] at h10
  | iff a t q iht ihq =>
    intro d d' b' r r' hb hb' hs hs' h
    obtain ⟨_, _, ht, hq⟩ := hb
    have s1 : ∀ q : List Cd, stop (cEnd :: q) := fun q x p e => by injection e with e; rw [← e]; exact .inl rfl
    have s2 : ∀ q : List Cd, stop (cElse :: q) := fun q x p e => by injection e with e; rw [← e]; exact .inr rfl
    cases b' with
    | nil => have := hs' _ _ h.symm; simp [cIf] at this
    | op y q' => obtain ⟨_, _, h10, _⟩ := hb'; simp only [Blk.flat, List.cons_append, List.cons.injEq] at h; rw [← h.1] at h10; simp [cIf] at h10
    | iff a' t' q' =>
      obtain ⟨_, _, ht', hq'⟩ := hb'
      simp only [Blk.flat, List.cons_append, List.cons.injEq, List.append_assoc] at h
      obtain ⟨e1, e2⟩ := iht _ _ _ _ _ ht ht' (s1 _) (s1 _) h.2
      injection e2 with _ e2
      obtain ⟨e3, e4⟩ := ihq _ _ _ _ _ hq hq' hs hs' e2
      have e5 : a = a' := by have := congrArg Cd.a h.1; exact this
      exact ⟨by rw [e1, e3, e5], e4⟩
    | ife a' t' e' q' =>
      obtain ⟨_, _, ht', _, _⟩ := hb'
      simp only [Blk.flat, List.cons_append, List.cons.injEq, List.append_assoc] at h
      obtain ⟨_, e2⟩ := iht _ _ _ _ _ ht ht' (s1 _) (s2 _) h.2
      injection e2 with e2 _
      have := congrArg Cd.op e2
      simp [cEnd, cElse] at this
    | loop a' c t' q' => simp only [Blk.flat, List.cons_append, List.cons.injEq] at h; have := congrArg Cd.op h.1; simp [cLoop, cIf] at this
  | ife a t e q iht ihe ihq =>
    intro d d' b' r r' hb hb' hs hs' h
    obtain ⟨_, _, ht, he, hq⟩ := hb
    have s1 : ∀ q : List Cd, stop (cEnd :: q) := fun q x p e => by injection e with e; rw [← e]; exact .inl rfl
    have s2 : ∀ q : List Cd, stop (cElse :: q) := fun q x p e => by injection e with e; rw [← e]; exact .inr rfl
    cases b' with
    | nil => have := hs' _ _ h.symm; simp [cIf] at this
    | op y q' => obtain ⟨_, _, h10, _⟩ := hb'; simp only [Blk.flat, List.cons_append, List.cons.injEq] at h; rw [← h.1] at h10; simp [cIf] at h10
    | iff a' t' q' =>
      obtain ⟨_, _, ht', hq'⟩ := hb'
      simp only [Blk.flat, List.cons_append, List.cons.injEq, List.append_assoc] at h
      obtain ⟨_, e2⟩ := iht _ _ _ _ _ ht ht' (s2 _) (s1 _) h.2
      injection e2 with e2 _
      have := congrArg Cd.op e2
      simp [cEnd, cElse] at this
    | ife a' t' e' q' =>
      obtain ⟨_, _, ht', he', hq'⟩ := hb'
      simp only [Blk.flat, List.cons_append, List.cons.injEq, List.append_assoc] at h
      obtain ⟨e1, e2⟩ := iht _ _ _ _ _ ht ht' (s2 _) (s2 _) h.2
      injection e2 with _ e2
      obtain ⟨e3, e4⟩ := ihe _ _ _ _ _ he he' (s1 _) (s1 _) e2
      injection e4 with _ e4
      obtain ⟨e5, e6⟩ := ihq _ _ _ _ _ hq hq' hs hs' e4
      have e7 : a = a' := by have := congrArg Cd.a h.1; exact this
      exact ⟨by rw [e1, e3, e5, e7], e6⟩
    | loop a' c t' q' => simp only [Blk.flat, List.cons_append, List.cons.injEq] at h; have := congrArg Cd.op h.1; simp [cLoop, cIf] at this
  | loop a c t q iht ihq =>
    intro d d' b' r r' hb hb' hs hs' h
    obtain ⟨_, _, _, ht, hq⟩ := hb
    have s1 : ∀ q : List Cd, stop (cEnd :: q) := fun q x p e => by injection e with e; rw [← e]; exact .inl rfl
    cases b' with
    | nil => have := hs' _ _ h.symm; simp [cLoop] at this
    | op y q' => obtain ⟨_, _, h10, _⟩ := hb'; simp only [Blk.flat, List.cons_append, List.cons.injEq] at h; rw [← h.1] at h10; simp [cLoop] at h10
    | iff a' t' q' => simp only [Blk.flat, List.cons_append, List.cons.injEq] at h; have := congrArg Cd.op h.1; simp [cLoop, cIf] at this
    | ife a' t' e' q' => simp only [Blk.flat, List.cons_append, List.cons.injEq] at h; have := congrArg Cd.op h.1; simp [cLoop, cIf] at this
    | loop a' c' t' q' =>
      obtain ⟨_, _, _, ht', hq'⟩ := hb'
      simp only [Blk.flat, List.cons_append, List.cons.injEq, List.append_assoc] at h
      obtain ⟨e1, e2⟩ := iht _ _ _ _ _ ht ht' (s1 _) (s1 _) h.2
      injection e2 with _ e2
      obtain ⟨e3, e4⟩ := ihq _ _ _ _ _ hq hq' hs hs' e2
      have e5 : a = a' := by have := congrArg Cd.a h.1; exact this
      have e6 : c = c' := by have := congrArg Cd.b h.1; exact this
      exact ⟨by rw [e1, e3, e5, e6], e4⟩
theorem treeOf_eq {b : Blk} {l : List Cd} (hb : b.ok 3) (hl : b.flat = l) (h : pv l = true) : treeOf l = b := by
  obtain ⟨h1, h2⟩ := treeOf_spec h
  have s0 : stop [] := fun x q e => by cases e
  exact (flat_inj (treeOf l) 3 3 b [] [] h1 hb s0 s0 (by rw [h2, hl])).1
theorem goS_tree {b : Blk} {l : List Cd} (hb : b.ok 3) (hl : b.flat = l) (h : pv l = true) (n : Nat) (m : List Int) : goS l n m = b.go (2 ^ n - 1) ⟨LS.start n m, []⟩ := by
  unfold goS
  rw [treeOf_eq hb hl h]

/-! ### What goes behind a tree -/
def Blk.app : Blk → Blk → Blk
  | .nil, c => c
  | .op x r, c => .op x (r.app c)
  | .iff a t r, c => .iff a t (r.app c)
  | .ife a t e r, c => .ife a t e (r.app c)
  | .loop a b t r, c => .loop a b t (r.app c)
theorem flat_app (b c : Blk) : (b.app c).flat = b.flat ++ c.flat := by
  induction b with
  | nil => rfl
  | op x r ih => simp [Blk.app, Blk.flat, ih]
  | iff a t r _ ih => simp [Blk.app, Blk.flat, ih]
  | ife a t e r _ _ ih => simp [Blk.app, Blk.flat, ih]
  | loop a b t r _ ih => simp [Blk.app, Blk.flat, ih]
theorem go_app (b c : Blk) : ∀ (m : Nat) (g : GS), (b.app c).go m g = c.go m (b.go m g) := by
  induction b with
  | nil => intro m g; rfl
  | op x r ih => intro m g; simp only [Blk.app, Blk.go]; split <;> rename_i h <;> simp [h, go_zero, ih]
  | iff a t r _ ih => intro m g; simp only [Blk.app, Blk.go]; split <;> rename_i h <;> simp [h, go_zero, ih]
  | ife a t e r _ _ ih => intro m g; simp only [Blk.app, Blk.go]; split <;> rename_i h <;> simp [h, go_zero, ih]
  | loop a b t r _ ih => intro m g; simp only [Blk.app, Blk.go]; split <;> rename_i h <;> simp [h, go_zero, ih]
theorem ok_app {b c : Blk} {d : Nat} (hc : c.ok d) : b.ok d → (b.app c).ok d := by
  induction b with
  | nil => intro _; exact hc
  | op x r ih => intro ⟨h1, h2, h3, h4⟩; exact ⟨h1, h2, h3, ih h4⟩
  | iff a t r _ ih => intro ⟨h1, h2, h3, h4⟩; exact ⟨h1, h2, h3, ih h4⟩
  | ife a t e r _ _ ih => intro ⟨h1, h2, h3, h4, h5⟩; exact ⟨h1, h2, h3, h4, ih h5⟩
  | loop a b t r _ ih => intro ⟨h1, h2, h3, h4, h5⟩; exact ⟨h1, h2, h3, h4, ih h5⟩
end Go.Proofs.Ytcpjhlkcfohkiaa
