/- Part 4 of what the claim needs. -/
import Derived.Test.YtelbfeidpcojmaaRg1
import Derived.Test.YtelbfeidpcojmaaRg2
import Derived.Test.YtelbfeidpcojmaaRg3
import Derived.RowKit3
namespace Go.Proofs.Ytelbfeidpcojmaa
open Go.RowKit
set_option linter.unusedVariables false
set_option linter.unusedSimpArgs false

/-- A lane that runs alone. -/
structure Ln where
  regs : List Int
  pos : Nat
  turns : List Int
  waits : Bool
def Ln.new : Ln := ⟨[0, 0, 0, 0], 0, [], false⟩
def goesL (l : List Cd) (s : Ln) : Bool := !s.waits && decide (s.pos < l.length)
/-- Place and turns after a step. -/
def nextP (l : List Cd) (r : List Int) (q : Nat) (ts : List Int) : Nat × List Int :=
  if (cdAt l q).op == 11 then (if rg r (cdAt l q).a == 0 then overN l q else q + 1, ts)
  else if (cdAt l q).op == 12 then (endN l (aroundN l q) + 1, ts)
  else if (cdAt l q).op == 13 then (if rg r (cdAt l q).a == 0 then (overN l q, ts) else (q + 1, ts ++ [(cdAt l q).b - 1]))
  else if (cdAt l q).op == 14 then
    (if opAt l (aroundN l q) == 13 then
      (if decide (0 < ts.getLastD 0) && !(rg r (cdAt l (aroundN l q)).a == 0) then (aroundN l q + 1, ts.dropLast ++ [ts.getLastD 0 - 1]) else (q + 1, ts.dropLast))
    else (q + 1, ts))
  else (q + 1, ts)
def stepL (l : List Cd) (id : Nat) (s : Ln) (m : List Int) : Ln × List Int :=
  (⟨(simp1 (cdAt l s.pos) id s.regs m).1, (nextP l s.regs s.pos s.turns).1, (nextP l s.regs s.pos s.turns).2, (cdAt l s.pos).op == 10⟩, (simp1 (cdAt l s.pos) id s.regs m).2)

/-- The greatest number of steps through a tree. -/
def Blk.all : Blk → Nat
  | .nil => 0
  | .op _ r => 1 + r.all
  | .iff _ t r => t.all + 2 + r.all
  | .ife _ t e r => t.all + e.all + 3 + r.all
  | .loop _ b t r => b.toNat * (t.all + 1) + 1 + r.all
/-- How many steps are left at most, at place q of a tree that begins at place p. -/
def Blk.left : Blk → Nat → Nat → List Int → Option Nat
  | .nil, p, q, ts => if q = p ∧ ts = [] then some 0 else none
  | .op _ r, p, q, ts => if q = p then (if ts = [] then some (1 + r.all) else none) else r.left (p + 1) q ts
  | .iff _ t r, p, q, ts => if q = p then (if ts = [] then some (t.all + 2 + r.all) else none)
      else if q < p + t.flat.length + 2 then (t.left (p + 1) q ts).map fun n => n + 1 + r.all
      else r.left (p + t.flat.length + 2) q ts
  | .ife _ t e r, p, q, ts => if q = p then (if ts = [] then some (t.all + e.all + 3 + r.all) else none)
      else if q < p + t.flat.length + 2 then (t.left (p + 1) q ts).map fun n => n + 1 + r.all
      else if q < p + t.flat.length + e.flat.length + 3 then (e.left (p + t.flat.length + 2) q ts).map fun n => n + 1 + r.all
      else r.left (p + t.flat.length + e.flat.length + 3) q ts
  | .loop _ b t r, p, q, ts => if q = p then (if ts = [] then some (b.toNat * (t.all + 1) + 1 + r.all) else none)
      else if q < p + t.flat.length + 2 then (match ts with
        | [] => none
        | k :: ts' => if 0 ≤ k ∧ k < b then (t.left (p + 1) q ts').map fun n => n + k.toNat * (t.all + 1) + 1 + r.all else none)
      else r.left (p + t.flat.length + 2) q ts

theorem left_start (b : Blk) : ∀ p, b.left p p [] = some b.all := by
  cases b <;> intro p <;> simp [Blk.left, Blk.all]
theorem left_in (b : Blk) : ∀ (p q : Nat) (ts : List Int) (n : Nat), b.left p q ts = some n → p ≤ q ∧ q ≤ p + b.flat.length ∧ (q = p + b.flat.length → ts = [] ∧ n = 0) := by
  induction b with
  | nil =>
    intro p q ts n h
    simp only [Blk.left] at h
    split at h
    · rename_i h'
      injection h with h
      obtain ⟨e1, e2⟩ := h'
      subst e1 e2 h
      simp [Blk.flat]
    · cases h
  | op x r ih =>
    intro p q ts n h
    simp only [Blk.left] at h
    split at h
    · rename_i e
      subst e
      simp [Blk.flat]
    · obtain ⟨h1, h2, h3⟩ := ih _ _ _ _ h
      simp only [Blk.flat, List.length_cons]
      exact ⟨by omega, by omega, fun e => h3 (by omega)⟩
  | iff a t r iht ihr =>
    intro p q ts n h
    simp only [Blk.left] at h
    have hl : (Blk.iff a t r).flat.length = t.flat.length + 2 + r.flat.length := by simp [Blk.flat]; omega
    rw [hl]
    split at h
    · rename_i e
      subst e
      exact ⟨Nat.le_refl _, by omega, fun e => by omega⟩
    · split at h
      · rename_i h1 h2
        cases ht : t.left (p + 1) q ts with
        | none => rw [ht] at h; cases h
        | some k =>
          obtain ⟨h3, h4, -⟩ := iht _ _ _ _ ht
          exact ⟨by omega, by omega, fun e => by omega⟩
      · obtain ⟨h1, h2, h3⟩ := ihr _ _ _ _ h
        exact ⟨by omega, by omega, fun e => h3 (by omega)⟩
  | ife a t e r iht ihe ihr =>
    intro p q ts n h
    simp only [Blk.left] at h
    have hl : (Blk.ife a t e r).flat.length = t.flat.length + e.flat.length + 3 + r.flat.length := by simp [Blk.flat]; omega
    rw [hl]
    split at h
    · rename_i e
      subst e
      exact ⟨Nat.le_refl _, by omega, fun e => by omega⟩
    · split at h
      · rename_i h1 h2
        cases ht : t.left (p + 1) q ts with
        | none => rw [ht] at h; cases h
        | some k =>
          obtain ⟨h3, h4, -⟩ := iht _ _ _ _ ht
          exact ⟨by omega, by omega, fun e => by omega⟩
      · split at h
        · rename_i h1 h2 h3
          cases ht : e.left (p + t.flat.length + 2) q ts with
          | none => rw [ht] at h; cases h
          | some k =>
            obtain ⟨h3, h4, -⟩ := ihe _ _ _ _ ht
            exact ⟨by omega, by omega, fun e => by omega⟩
        · obtain ⟨h1, h2, h3⟩ := ihr _ _ _ _ h
          exact ⟨by omega, by omega, fun e => h3 (by omega)⟩
  | loop a c t r iht ihr =>
    intro p q ts n h
    simp only [Blk.left] at h
    have hl : (Blk.loop a c t r).flat.length = t.flat.length + 2 + r.flat.length := by simp [Blk.flat]; omega
    rw [hl]
    split at h
    · rename_i e
      subst e
      exact ⟨Nat.le_refl _, by omega, fun e => by omega⟩
    · split at h
      · rename_i h1 h2
        cases ts with
        | nil => cases h
        | cons k ts' =>
          simp only at h
          split at h
          · cases ht : t.left (p + 1) q ts' with
            | none => rw [ht] at h; cases h
            | some j =>
              obtain ⟨h3, h4, -⟩ := iht _ _ _ _ ht
              exact ⟨by omega, by omega, fun e => by omega⟩
          · cases h
      · obtain ⟨h1, h2, h3⟩ := ihr _ _ _ _ h
        exact ⟨by omega, by omega, fun e => h3 (by omega)⟩

/-! ### Places -/
section
variable {l : List Cd}
theorem cdAt_drop {q : Nat} {x : Cd} {r : List Cd} (h : l.drop q = x :: r) : cdAt l q = x := by
  obtain ⟨h1, -⟩ := drop_cons h
  unfold cdAt
  rw [h1]
theorem over_iff {q d : Nat} {x : Cd} {t : Blk} {r : List Cd} (ht : t.ok d) (h : l.drop q = x :: (t.flat ++ cEnd :: r)) : overN l q = q + t.flat.length + 2 := by
  obtain ⟨h1, -⟩ := end_iff ht h
  unfold overN elseAt endN
  rw [h1]
  simp; omega
theorem over_ife {q d d' : Nat} {x : Cd} {t e : Blk} {r : List Cd} (ht : t.ok d) (he : e.ok d') (h : l.drop q = x :: (t.flat ++ cElse :: (e.flat ++ cEnd :: r))) : overN l q = q + t.flat.length + 2 ∧ endN l q = q + t.flat.length + e.flat.length + 2 := by
  obtain ⟨h1, -⟩ := end_ife ht he h
  unfold overN elseAt endN
  rw [h1]
  refine ⟨?_, by simp; omega⟩
  have : (0 : Int) ≤ ((q + t.flat.length + 1 : Nat) : Int) := by omega
  rw [if_pos this]
  simp; omega
theorem around_ife {q d d' : Nat} {x : Cd} {t e : Blk} {r : List Cd} (ht : t.ok d) (he : e.ok d') (ho : opB x = true) (h : l.drop q = x :: (t.flat ++ cElse :: (e.flat ++ cEnd :: r))) : aroundN l (q + t.flat.length + e.flat.length + 2) = q := by
  obtain ⟨_, h2, h3, h4⟩ := end_ife ht he h
  have h1 := around_tree ht ho h
  have e1 : l.drop (q + t.flat.length + 1) = cElse :: (e.flat ++ cEnd :: r) := by
    have := drop_skip h2
    rw [← this]; congr 1; omega
  have hx := (drop_cons e1).1
  have hlt := (drop_cons e1).2.2
  have s1 : scanA l (q + t.flat.length + 1 + 1) 0 = scanA l (q + t.flat.length + 1) 0 := scanA_nb hx (by decide) (by decide)
  have s2 := scanA_drop he h3 (by omega)
  unfold aroundN aroundOf at h1 ⊢
  rw [show q + t.flat.length + e.flat.length + 2 = q + t.flat.length + 2 + e.flat.length by omega, s2, show q + t.flat.length + 2 = q + t.flat.length + 1 + 1 by omega, s1]
  exact h1

theorem next_op {q : Nat} {r : List Int} {ts : List Int} (h : (cdAt l q).op ≤ 10) : nextP l r q ts = (q + 1, ts) := by
  have e1 : ((cdAt l q).op == 11) = false := beq_eq_false_iff_ne.2 (by omega)
  have e2 : ((cdAt l q).op == 12) = false := beq_eq_false_iff_ne.2 (by omega)
  have e3 : ((cdAt l q).op == 13) = false := beq_eq_false_iff_ne.2 (by omega)
  have e4 : ((cdAt l q).op == 14) = false := beq_eq_false_iff_ne.2 (by omega)
  simp [nextP, e1, e2, e3, e4]
theorem next_if {q : Nat} {r : List Int} {ts : List Int} {a : Int} (h : cdAt l q = cIf a) : nextP l r q ts = (if rg r a == 0 then overN l q else q + 1, ts) := by
  simp only [nextP, h]; rfl
theorem next_else {q : Nat} {r : List Int} {ts : List Int} (h : cdAt l q = cElse) : nextP l r q ts = (endN l (aroundN l q) + 1, ts) := by
  simp only [nextP, h]; rfl
theorem next_loop {q : Nat} {r : List Int} {ts : List Int} {a b : Int} (h : cdAt l q = cLoop a b) : nextP l r q ts = if rg r a == 0 then (overN l q, ts) else (q + 1, ts ++ [b - 1]) := by
  simp only [nextP, h]; rfl
theorem next_end {q : Nat} {r : List Int} {ts : List Int} (h : cdAt l q = cEnd) : nextP l r q ts = if opAt l (aroundN l q) == 13 then
      (if decide (0 < ts.getLastD 0) && !(rg r (cdAt l (aroundN l q)).a == 0) then (aroundN l q + 1, ts.dropLast ++ [ts.getLastD 0 - 1]) else (q + 1, ts.dropLast))
    else (q + 1, ts) := by
  simp only [nextP, h]; rfl

/-- A step leaves fewer. -/
theorem next_left (b : Blk) : ∀ (d p q : Nat) (rest : List Cd) (pre ts r : List Int) (n : Nat), b.ok d → l.drop p = b.flat ++ rest → q < p + b.flat.length → b.left p q ts = some n →
    ∃ q' ts' n', nextP l r q (pre ++ ts) = (q', pre ++ ts') ∧ b.left p q' ts' = some n' ∧ n' < n := by
  induction b with
  | nil =>
    intro d p q rest pre ts r n _ _ hq h
    obtain ⟨h1, _⟩ := left_in _ _ _ _ _ h
    simp [Blk.flat] at hq
    omega
  | op x s ih =>
    intro d p q rest pre ts r n ⟨hv, ho1, ho, hs⟩ hd hq h
    have hd' : l.drop p = x :: (s.flat ++ rest) := by rw [hd]; simp [Blk.flat]
    obtain ⟨k1, k2, k3⟩ := drop_cons hd'
    simp only [Blk.left] at h
    by_cases e : q = p
    · subst e
      rw [if_pos rfl] at h
      split at h
      · rename_i hts
        subst hts
        injection h with h
        refine ⟨q + 1, [], s.all, next_op (by rw [cdAt_drop hd']; exact ho), ?_, by omega⟩
        simp only [Blk.left, if_neg (show ¬ q + 1 = q by omega)]
        exact left_start s (q + 1)
      · cases h
    · rw [if_neg e] at h
      obtain ⟨q', ts', n', h1, h2, h3⟩ := ih d (p + 1) q rest pre ts r n hs k2 (by simp [Blk.flat] at hq; omega) h
      obtain ⟨g1, -⟩ := left_in _ _ _ _ _ h2
      refine ⟨q', ts', n', h1, ?_, h3⟩
      simp only [Blk.left, if_neg (show ¬ q' = p by omega)]
      exact h2
  | iff a t s iht ihs =>
    intro d p q rest pre ts r n ⟨ha, hd1, ht, hs⟩ hd hq h
    have hd' : l.drop p = cIf a :: (t.flat ++ cEnd :: (s.flat ++ rest)) := by rw [hd]; simp [Blk.flat]
    obtain ⟨-, k2, k3⟩ := end_iff ht hd'
    have hov := over_iff ht hd'
    have har := around_tree ht (show opB (cIf a) = true from rfl) hd'
    have hE : l.drop (p + t.flat.length + 1) = cEnd :: (s.flat ++ rest) := by
      have := drop_skip k2
      rw [← this]; congr 1; omega
    have toS : (Blk.iff a t s).left p (p + t.flat.length + 2) [] = some s.all := by
      simp only [Blk.left, if_neg (show ¬ p + t.flat.length + 2 = p by omega), if_neg (Nat.lt_irrefl _)]
      exact left_start s _
    have toT : ∀ q' ts' k, t.left (p + 1) q' ts' = some k → (Blk.iff a t s).left p q' ts' = some (k + 1 + s.all) := fun q' ts' k hk => by
      obtain ⟨g1, g2, -⟩ := left_in _ _ _ _ _ hk
      simp only [Blk.left, if_neg (show ¬ q' = p by omega), if_pos (show q' < p + t.flat.length + 2 by omega), hk]
      rfl
    have hlen : (Blk.iff a t s).flat.length = t.flat.length + 2 + s.flat.length := by simp [Blk.flat]; omega
    simp only [Blk.left] at h
    by_cases e : q = p
    · subst e
      rw [if_pos rfl] at h
      split at h
      · rename_i hts
        subst hts
        injection h with h
        rw [next_if (cdAt_drop hd'), hov]
        split
        · exact ⟨_, [], _, rfl, toS, by omega⟩
        · exact ⟨_, [], _, rfl, toT _ _ _ (left_start t (q + 1)), by omega⟩
      · cases h
    · rw [if_neg e] at h
      by_cases e2 : q < p + t.flat.length + 2
      · rw [if_pos e2] at h
        cases hk : t.left (p + 1) q ts with
        | none => rw [hk] at h; cases h
        | some k =>
          rw [hk] at h
          simp only [Option.map_some, Option.some.injEq] at h
          obtain ⟨g1, g2, g3⟩ := left_in _ _ _ _ _ hk
          by_cases e3 : q = p + 1 + t.flat.length
          · obtain ⟨rfl, rfl⟩ := g3 e3
            have e4 : q = p + t.flat.length + 1 := by omega
            subst e4
            rw [next_end (cdAt_drop hE), har, opAt_drop hd']
            refine ⟨_, [], _, rfl, toS, by omega⟩
          · obtain ⟨q', ts', n', h1, h2, h3⟩ := iht _ (p + 1) q _ pre ts r k ht k2 (by omega) hk
            exact ⟨q', ts', _, h1, toT _ _ _ h2, by omega⟩
      · rw [if_neg e2] at h
        obtain ⟨q', ts', n', h1, h2, h3⟩ := ihs d (p + t.flat.length + 2) q rest pre ts r n hs k3 (by omega) h
        obtain ⟨g1, -⟩ := left_in _ _ _ _ _ h2
        refine ⟨q', ts', n', h1, ?_, h3⟩
        simp only [Blk.left, if_neg (show ¬ q' = p by omega), if_neg (show ¬ q' < p + t.flat.length + 2 by omega)]
        exact h2
  | ife a t e s iht ihe ihs =>
    intro d p q rest pre ts r n ⟨ha, hd1, ht, he, hs⟩ hd hq h
    have hd' : l.drop p = cIf a :: (t.flat ++ cElse :: (e.flat ++ cEnd :: (s.flat ++ rest))) := by rw [hd]; simp [Blk.flat]
    obtain ⟨-, k2, k4, k3⟩ := end_ife ht he hd'
    obtain ⟨hov, hen⟩ := over_ife ht he hd'
    have har := around_tree ht (show opB (cIf a) = true from rfl) hd'
    have har2 := around_ife ht he (show opB (cIf a) = true from rfl) hd'
    have hE : l.drop (p + t.flat.length + 1) = cElse :: (e.flat ++ cEnd :: (s.flat ++ rest)) := by
      have := drop_skip k2
      rw [← this]; congr 1; omega
    have hE2 : l.drop (p + t.flat.length + e.flat.length + 2) = cEnd :: (s.flat ++ rest) := by
      have := drop_skip k4
      rw [← this]; congr 1; omega
    have toS : (Blk.ife a t e s).left p (p + t.flat.length + e.flat.length + 3) [] = some s.all := by
      simp only [Blk.left, if_neg (show ¬ p + t.flat.length + e.flat.length + 3 = p by omega), if_neg (show ¬ p + t.flat.length + e.flat.length + 3 < p + t.flat.length + 2 by omega), if_neg (Nat.lt_irrefl _)]
      exact left_start s _
    have toT : ∀ q' ts' k, t.left (p + 1) q' ts' = some k → (Blk.ife a t e s).left p q' ts' = some (k + 1 + s.all) := fun q' ts' k hk => by
      obtain ⟨g1, g2, -⟩ := left_in _ _ _ _ _ hk
      simp only [Blk.left, if_neg (show ¬ q' = p by omega), if_pos (show q' < p + t.flat.length + 2 by omega), hk]
      rfl
    have toE : ∀ q' ts' k, e.left (p + t.flat.length + 2) q' ts' = some k → (Blk.ife a t e s).left p q' ts' = some (k + 1 + s.all) := fun q' ts' k hk => by
      obtain ⟨g1, g2, -⟩ := left_in _ _ _ _ _ hk
      simp only [Blk.left, if_neg (show ¬ q' = p by omega), if_neg (show ¬ q' < p + t.flat.length + 2 by omega), if_pos (show q' < p + t.flat.length + e.flat.length + 3 by omega), hk]
      rfl
    have hlen : (Blk.ife a t e s).flat.length = t.flat.length + e.flat.length + 3 + s.flat.length := by simp [Blk.flat]; omega
    simp only [Blk.left] at h
    by_cases e0 : q = p
    · subst e0
      rw [if_pos rfl] at h
      split at h
      · rename_i hts
        subst hts
        injection h with h
        rw [next_if (cdAt_drop hd'), hov]
        split
        · exact ⟨_, [], _, rfl, toE _ _ _ (left_start e _), by omega⟩
        · exact ⟨_, [], _, rfl, toT _ _ _ (left_start t (q + 1)), by omega⟩
      · cases h
    · rw [if_neg e0] at h
      by_cases e2 : q < p + t.flat.length + 2
      · rw [if_pos e2] at h
        cases hk : t.left (p + 1) q ts with
        | none => rw [hk] at h; cases h
        | some k =>
          rw [hk] at h
          simp only [Option.map_some, Option.some.injEq] at h
          obtain ⟨g1, g2, g3⟩ := left_in _ _ _ _ _ hk
          by_cases e3 : q = p + 1 + t.flat.length
          · obtain ⟨rfl, rfl⟩ := g3 e3
            have e4 : q = p + t.flat.length + 1 := by omega
            subst e4
            rw [next_else (cdAt_drop hE), har, hen]
            refine ⟨_, [], _, rfl, toS, by omega⟩
          · obtain ⟨q', ts', n', h1, h2, h3⟩ := iht _ (p + 1) q _ pre ts r k ht k2 (by omega) hk
            exact ⟨q', ts', _, h1, toT _ _ _ h2, by omega⟩
      · rw [if_neg e2] at h
        by_cases e5 : q < p + t.flat.length + e.flat.length + 3
        · rw [if_pos e5] at h
          cases hk : e.left (p + t.flat.length + 2) q ts with
          | none => rw [hk] at h; cases h
          | some k =>
            rw [hk] at h
            simp only [Option.map_some, Option.some.injEq] at h
            obtain ⟨g1, g2, g3⟩ := left_in _ _ _ _ _ hk
            by_cases e3 : q = p + t.flat.length + 2 + e.flat.length
            · obtain ⟨rfl, rfl⟩ := g3 e3
              have e4 : q = p + t.flat.length + e.flat.length + 2 := by omega
              subst e4
              rw [next_end (cdAt_drop hE2), har2, opAt_drop hd']
              refine ⟨_, [], _, rfl, toS, by omega⟩
            · obtain ⟨q', ts', n', h1, h2, h3⟩ := ihe _ (p + t.flat.length + 2) q _ pre ts r k he k4 (by omega) hk
              exact ⟨q', ts', _, h1, toE _ _ _ h2, by omega⟩
        · rw [if_neg e5] at h
          obtain ⟨q', ts', n', h1, h2, h3⟩ := ihs d (p + t.flat.length + e.flat.length + 3) q rest pre ts r n hs k3 (by omega) h
          obtain ⟨g1, -⟩ := left_in _ _ _ _ _ h2
          refine ⟨q', ts', n', h1, ?_, h3⟩
          simp only [Blk.left, if_neg (show ¬ q' = p by omega), if_neg (show ¬ q' < p + t.flat.length + 2 by omega), if_neg (show ¬ q' < p + t.flat.length + e.flat.length + 3 by omega)]
          exact h2
  | loop a c t s iht ihs =>
    intro d p q rest pre ts r n ⟨ha, hc, hd1, ht, hs⟩ hd hq h
    have hd' : l.drop p = cLoop a c :: (t.flat ++ cEnd :: (s.flat ++ rest)) := by rw [hd]; simp [Blk.flat]
    obtain ⟨-, k2, k3⟩ := end_iff ht hd'
    have hov := over_iff ht hd'
    have har := around_tree ht (show opB (cLoop a c) = true from rfl) hd'
    have hE : l.drop (p + t.flat.length + 1) = cEnd :: (s.flat ++ rest) := by
      have := drop_skip k2
      rw [← this]; congr 1; omega
    have toS : (Blk.loop a c t s).left p (p + t.flat.length + 2) [] = some s.all := by
      simp only [Blk.left, if_neg (show ¬ p + t.flat.length + 2 = p by omega), if_neg (Nat.lt_irrefl _)]
      exact left_start s _
    have toT : ∀ q' ts' (j : Int) k, 0 ≤ j ∧ j < c → t.left (p + 1) q' ts' = some k → (Blk.loop a c t s).left p q' (j :: ts') = some (k + j.toNat * (t.all + 1) + 1 + s.all) := fun q' ts' j k hj hk => by
      obtain ⟨g1, g2, -⟩ := left_in _ _ _ _ _ hk
      simp only [Blk.left, if_neg (show ¬ q' = p by omega), if_pos (show q' < p + t.flat.length + 2 by omega), if_pos hj, hk]
      rfl
    have hlen : (Blk.loop a c t s).flat.length = t.flat.length + 2 + s.flat.length := by simp [Blk.flat]; omega
    simp only [Blk.left] at h
    by_cases e : q = p
    · subst e
      rw [if_pos rfl] at h
      split at h
      · rename_i hts
        subst hts
        injection h with h
        rw [next_loop (cdAt_drop hd'), hov]
        split
        · exact ⟨_, [], _, rfl, toS, by omega⟩
        · refine ⟨_, [c - 1], _, by rw [List.append_nil], toT _ [] (c - 1) _ (by omega) (left_start t (q + 1)), ?_⟩
          have e1 : c.toNat * (t.all + 1) = (c - 1).toNat * (t.all + 1) + (t.all + 1) := by
            rw [show c.toNat = (c - 1).toNat + 1 by omega, Nat.add_mul]; omega
          omega
      · cases h
    · rw [if_neg e] at h
      by_cases e2 : q < p + t.flat.length + 2
      · rw [if_pos e2] at h
        cases ts with
        | nil => cases h
        | cons j ts =>
          simp only at h
          by_cases hj : 0 ≤ j ∧ j < c
          · rw [if_pos hj] at h
            cases hk : t.left (p + 1) q ts with
            | none => rw [hk] at h; cases h
            | some k =>
              rw [hk] at h
              simp only [Option.map_some, Option.some.injEq] at h
              obtain ⟨g1, g2, g3⟩ := left_in _ _ _ _ _ hk
              by_cases e3 : q = p + 1 + t.flat.length
              · obtain ⟨rfl, rfl⟩ := g3 e3
                have e4 : q = p + t.flat.length + 1 := by omega
                subst e4
                rw [next_end (cdAt_drop hE), har, opAt_drop hd']
                have e13 : ((cLoop a c).op == 13) = true := rfl
                have eL : (pre ++ [j]).getLastD 0 = j := by simp
                have eD : (pre ++ [j]).dropLast = pre := by simp
                rw [if_pos e13, eL, eD]
                split
                · rename_i hh
                  simp only [Bool.and_eq_true, decide_eq_true_eq] at hh
                  refine ⟨_, [j - 1], _, rfl, toT _ [] (j - 1) _ (by omega) (left_start t (p + 1)), ?_⟩
                  have e1 : j.toNat * (t.all + 1) = (j - 1).toNat * (t.all + 1) + (t.all + 1) := by
                    rw [show j.toNat = (j - 1).toNat + 1 by omega, Nat.add_mul]; omega
                  omega
                · exact ⟨_, [], _, by rw [List.append_nil], toS, by omega⟩
              · obtain ⟨q', ts', n', h1, h2, h3⟩ := iht _ (p + 1) q _ (pre ++ [j]) ts r k ht k2 (by omega) hk
                refine ⟨q', j :: ts', _, ?_, toT _ _ _ _ hj h2, by omega⟩
                have e5 : pre ++ j :: ts = pre ++ [j] ++ ts := by simp
                rw [e5, h1]; simp
          · rw [if_neg hj] at h; cases h
      · rw [if_neg e2] at h
        obtain ⟨q', ts', n', h1, h2, h3⟩ := ihs d (p + t.flat.length + 2) q rest pre ts r n hs k3 (by omega) h
        obtain ⟨g1, -⟩ := left_in _ _ _ _ _ h2
        refine ⟨q', ts', n', h1, ?_, h3⟩
        simp only [Blk.left, if_neg (show ¬ q' = p by omega), if_neg (show ¬ q' < p + t.flat.length + 2 by omega)]
        exact h2
end

/-! ### A lane of a valid program -/
structure LnOk (l : List Cd) (s : Ln) : Prop where
  four : s.regs.length = 4
  words : wordsOk s.regs
  left : ∃ n, (treeOf l).left 0 s.pos s.turns = some n
noncomputable def leftOf (l : List Cd) (s : Ln) : Nat := ((treeOf l).left 0 s.pos s.turns).getD 0
theorem leftOf_eq {l : List Cd} {s : Ln} {n : Nat} (h : (treeOf l).left 0 s.pos s.turns = some n) : leftOf l s = n := by unfold leftOf; rw [h]; rfl
theorem LnOk.pos_le {l : List Cd} (hp : pv l = true) {s : Ln} (h : LnOk l s) : s.pos ≤ l.length ∧ (s.pos = l.length → s.turns = []) := by
  obtain ⟨n, hn⟩ := h.left
  obtain ⟨-, h2⟩ := treeOf_spec hp
  obtain ⟨h3, h4, h5⟩ := left_in _ _ _ _ _ hn
  rw [h2] at h4 h5
  exact ⟨by omega, fun e => (h5 (by omega)).1⟩
theorem LnOk.new {l : List Cd} : LnOk l Ln.new := ⟨rfl, fun v hv => by simp [Ln.new] at hv; omega, ⟨_, left_start _ 0⟩⟩
theorem LnOk.free {l : List Cd} {s : Ln} (h : LnOk l s) (b : Bool) : LnOk l { s with waits := b } := ⟨h.four, h.words, h.left⟩
theorem cdAt_ok {l : List Cd} (hp : pv l = true) {k : Nat} (hk : k < l.length) : cvOk (cdAt l k) = true := by
  have : cdAt l k = l[k] := by simp [cdAt, List.getElem?_eq_getElem hk]
  rw [this]
  exact pv_all hp _ (List.getElem_mem hk)
theorem LnOk.step {l : List Cd} (hp : pv l = true) {s : Ln} (h : LnOk l s) (hlt : s.pos < l.length) {id : Nat} (hid : id ≤ 255) {m : List Int} (hm : wordsOk m) :
    LnOk l (stepL l id s m).1 ∧ leftOf l (stepL l id s m).1 < leftOf l s ∧ wordsOk (stepL l id s m).2 ∧ (stepL l id s m).2.length = m.length := by
  obtain ⟨h1, h2⟩ := treeOf_spec hp
  obtain ⟨n, hn⟩ := h.left
  obtain ⟨q', ts', n', e1, e2, e3⟩ := next_left (l := l) (treeOf l) 3 0 s.pos [] [] s.turns s.regs n h1 (by simp [h2]) (by rw [h2]; omega) hn
  simp only [List.nil_append] at e1
  have hw := simp1_words (x := cdAt l s.pos) (id := id) (cdAt_ok hp hlt) hid h.words hm
  have hl := simp1_len (cdAt l s.pos) id s.regs m
  have eP : (stepL l id s m).1.pos = q' := by simp [stepL, e1]
  have eT : (stepL l id s m).1.turns = ts' := by simp [stepL, e1]
  refine ⟨⟨hl.1.trans h.four, hw.1, ⟨n', by rw [eP, eT]; exact e2⟩⟩, ?_, hw.2, hl.2⟩
  rw [leftOf_eq hn]
  have : leftOf l (stepL l id s m).1 = n' := leftOf_eq (by rw [eP, eT]; exact e2)
  omega
theorem all_le (b : Blk) : ∀ d, b.ok d → b.all ≤ 5 ^ d * (2 * b.flat.length) := by
  induction b with
  | nil => intro d _; simp [Blk.all]
  | op x r ih =>
    intro d ⟨_, _, _, hr⟩
    have := ih d hr
    have h1 : 1 ≤ 5 ^ d := Nat.one_le_pow _ _ (by decide)
    simp only [Blk.all, Blk.flat, List.length_cons]
    have e : 5 ^ d * (2 * (r.flat.length + 1)) = 5 ^ d * (2 * r.flat.length) + 2 * 5 ^ d := by
      rw [show 2 * (r.flat.length + 1) = 2 * r.flat.length + 2 by omega, Nat.mul_add]; omega
    omega
  | iff a t r iht ihr =>
    intro d ⟨_, hd, ht, hr⟩
    have h1 := iht (d - 1) ht
    have h2 := ihr d hr
    have h3 : 1 ≤ 5 ^ d := Nat.one_le_pow _ _ (by decide)
    have h4 : 5 ^ (d - 1) * (2 * t.flat.length) ≤ 5 ^ d * (2 * t.flat.length) := Nat.mul_le_mul_right _ (Nat.pow_le_pow_right (by decide) (by omega))
    have hl : (Blk.iff a t r).flat.length = t.flat.length + 2 + r.flat.length := by simp [Blk.flat]; omega
    rw [hl]
    simp only [Blk.all]
    have e : 5 ^ d * (2 * (t.flat.length + 2 + r.flat.length)) = 5 ^ d * (2 * t.flat.length) + 5 ^ d * (2 * r.flat.length) + 4 * 5 ^ d := by
      rw [show 2 * (t.flat.length + 2 + r.flat.length) = 2 * t.flat.length + 2 * r.flat.length + 4 by omega, Nat.mul_add, Nat.mul_add]; omega
    omega
  | ife a t e r iht ihe ihr =>
    intro d ⟨_, hd, ht, he, hr⟩
    have h1 := iht (d - 1) ht
    have h1e := ihe (d - 1) he
    have h2 := ihr d hr
    have h3 : 1 ≤ 5 ^ d := Nat.one_le_pow _ _ (by decide)
    have h4 : 5 ^ (d - 1) * (2 * t.flat.length) ≤ 5 ^ d * (2 * t.flat.length) := Nat.mul_le_mul_right _ (Nat.pow_le_pow_right (by decide) (by omega))
    have h5 : 5 ^ (d - 1) * (2 * e.flat.length) ≤ 5 ^ d * (2 * e.flat.length) := Nat.mul_le_mul_right _ (Nat.pow_le_pow_right (by decide) (by omega))
    have hl : (Blk.ife a t e r).flat.length = t.flat.length + e.flat.length + 3 + r.flat.length := by simp [Blk.flat]; omega
    rw [hl]
    simp only [Blk.all]
    have ee : 5 ^ d * (2 * (t.flat.length + e.flat.length + 3 + r.flat.length)) = 5 ^ d * (2 * t.flat.length) + 5 ^ d * (2 * e.flat.length) + 5 ^ d * (2 * r.flat.length) + 6 * 5 ^ d := by
      rw [show 2 * (t.flat.length + e.flat.length + 3 + r.flat.length) = 2 * t.flat.length + 2 * e.flat.length + 2 * r.flat.length + 6 by omega, Nat.mul_add, Nat.mul_add, Nat.mul_add]; omega
    omega
  | loop a c t r iht ihr =>
    intro d ⟨_, hc, hd, ht, hr⟩
    have h1 := iht (d - 1) ht
    have h2 := ihr d hr
    have h3 : 1 ≤ 5 ^ (d - 1) := Nat.one_le_pow _ _ (by decide)
    have e5 : 5 ^ d = 5 * 5 ^ (d - 1) := by
      obtain ⟨k, rfl⟩ : ∃ k, d = k + 1 := ⟨d - 1, by omega⟩
      rw [Nat.pow_succ]; simp; omega
    have hl : (Blk.loop a c t r).flat.length = t.flat.length + 2 + r.flat.length := by simp [Blk.flat]; omega
    have h6 : c.toNat * (t.all + 1) ≤ 4 * (t.all + 1) := Nat.mul_le_mul_right _ (by omega)
    rw [hl]
    simp only [Blk.all]
    have ee : 5 ^ d * (2 * (t.flat.length + 2 + r.flat.length)) = 5 * (5 ^ (d - 1) * (2 * t.flat.length)) + 5 ^ d * (2 * r.flat.length) + 4 * 5 ^ d := by
      rw [show 2 * (t.flat.length + 2 + r.flat.length) = 2 * t.flat.length + 2 * r.flat.length + 4 by omega, Nat.mul_add, Nat.mul_add]
      have : 5 ^ d * (2 * t.flat.length) = 5 * (5 ^ (d - 1) * (2 * t.flat.length)) := by rw [e5, Nat.mul_assoc]
      omega
    omega
theorem left_le_all (b : Blk) : ∀ (d p q : Nat) (ts : List Int) (n : Nat), b.ok d → b.left p q ts = some n → n ≤ b.all := by
  induction b with
  | nil =>
    intro d p q ts n _ h
    simp only [Blk.left] at h
    split at h
    · injection h with h; omega
    · cases h
  | op x r ih =>
    intro d p q ts n ⟨_, _, _, hr⟩ h
    simp only [Blk.left] at h
    simp only [Blk.all]
    split at h
    · split at h
      · injection h with h; omega
      · cases h
    · have := ih d _ _ _ _ hr h; omega
  | iff a t r iht ihr =>
    intro d p q ts n ⟨_, _, ht, hr⟩ h
    simp only [Blk.left] at h
    simp only [Blk.all]
    split at h
    · split at h
      · injection h with h; omega
      · cases h
    · split at h
      · cases hk : t.left (p + 1) q ts with
        | none => rw [hk] at h; cases h
        | some k =>
          rw [hk] at h
          simp only [Option.map_some, Option.some.injEq] at h
          have := iht _ _ _ _ _ ht hk; omega
      · have := ihr d _ _ _ _ hr h; omega
  | ife a t e r iht ihe ihr =>
    intro d p q ts n ⟨_, _, ht, he, hr⟩ h
    simp only [Blk.left] at h
    simp only [Blk.all]
    split at h
    · split at h
      · injection h with h; omega
      · cases h
    · split at h
      · cases hk : t.left (p + 1) q ts with
        | none => rw [hk] at h; cases h
        | some k =>
          rw [hk] at h
          simp only [Option.map_some, Option.some.injEq] at h
          have := iht _ _ _ _ _ ht hk; omega
      · split at h
        · cases hk : e.left (p + t.flat.length + 2) q ts with
          | none => rw [hk] at h; cases h
          | some k =>
            rw [hk] at h
            simp only [Option.map_some, Option.some.injEq] at h
            have := ihe _ _ _ _ _ he hk; omega
        · have := ihr d _ _ _ _ hr h; omega
  | loop a c t r iht ihr =>
    intro d p q ts n ⟨_, hc, _, ht, hr⟩ h
    simp only [Blk.left] at h
    simp only [Blk.all]
    split at h
    · split at h
      · injection h with h; omega
      · cases h
    · split at h
      · cases ts with
        | nil => cases h
        | cons j ts =>
          simp only at h
          split at h
          · rename_i hj
            cases hk : t.left (p + 1) q ts with
            | none => rw [hk] at h; cases h
            | some k =>
              rw [hk] at h
              simp only [Option.map_some, Option.some.injEq] at h
              have h1 := iht _ _ _ _ _ ht hk
              have e1 : c.toNat * (t.all + 1) ≥ (j.toNat + 1) * (t.all + 1) := Nat.mul_le_mul_right _ (by omega)
              rw [Nat.add_mul] at e1
              omega
          · cases h
      · have := ihr d _ _ _ _ hr h; omega
theorem leftOf_le {l : List Cd} (hp : pv l = true) (s : Ln) : leftOf l s ≤ 10000 := by
  obtain ⟨h1, h2⟩ := treeOf_spec hp
  unfold leftOf
  cases h : (treeOf l).left 0 s.pos s.turns with
  | none => simp
  | some n =>
    have h3 := left_le_all _ 3 _ _ _ _ h1 h
    have h4 := all_le _ 3 h1
    rw [h2] at h4
    have h5 := (pv_iff.1 hp).1
    show n ≤ 10000
    have : 5 ^ 3 * (2 * l.length) ≤ 5 ^ 3 * (2 * 40) := Nat.mul_le_mul_left _ (by omega)
    omega

/-! ### Crowds -/
structure Cw where
  ls : List Ln
  mem : List Int
def Cw.lane (c : Cw) (k : Nat) : Ln := c.ls.getD k Ln.new
def Cw.start (n : Nat) (mem : List Int) : Cw := ⟨List.replicate n Ln.new, mem⟩
def stepAt (l : List Cd) (c : Cw) (k : Nat) : Cw := ⟨c.ls.set k (stepL l k (c.lane k) c.mem).1, (stepL l k (c.lane k) c.mem).2⟩
def passC (l : List Cd) (c : Cw) : Cw := if c.ls.any (goesL l) then c else ⟨c.ls.map fun s => { s with waits := false }, c.mem⟩
def overC (l : List Cd) (c : Cw) : Bool := c.ls.all fun s => decide (l.length ≤ s.pos)
/-- The least place of those of some lanes that go. -/
def leastP (l : List Cd) (c : Cw) (ks : List Nat) : Nat := ks.foldl (fun p k => if goesL l (c.lane k) && decide ((c.lane k).pos < p) then (c.lane k).pos else p) l.length
def amongL (l : List Cd) (c : Cw) (ks : List Nat) : List Nat := ks.filter fun k => goesL l (c.lane k) && decide ((c.lane k).pos = leastP l c ks)
def stepG (l : List Cd) (c : Cw) (ks : List Nat) : Cw := passC l ((amongL l c ks).foldl (stepAt l) c)
def runC (l : List Cd) (sch : Nat → List Nat) (c : Cw) : Nat → Cw
  | 0 => c
  | i + 1 => stepG l (runC l sch c i) (sch i)
structure CwOk (l : List Cd) (n : Nat) (c : Cw) : Prop where
  len : c.ls.length = n
  lane : ∀ s ∈ c.ls, LnOk l s
  words : wordsOk c.mem
noncomputable def leftC (l : List Cd) (c : Cw) : Nat := (c.ls.map (leftOf l)).sum
theorem CwOk.at_ {l : List Cd} {n : Nat} {c : Cw} (h : CwOk l n c) {k : Nat} (hk : k < n) : c.ls[k]? = some (c.lane k) ∧ LnOk l (c.lane k) := by
  have hk' : k < c.ls.length := by rw [h.len]; exact hk
  have e : c.ls[k]? = some (c.lane k) := by simp [Cw.lane, List.getD_eq_getElem?_getD, hk']
  exact ⟨e, h.lane _ (List.mem_of_getElem? e)⟩
theorem CwOk.start {l : List Cd} {n : Nat} {mem : List Int} (h : wordsOk mem) : CwOk l n (Cw.start n mem) := ⟨by simp [Cw.start], fun s hs => by
  have : s = Ln.new := (List.mem_replicate.1 hs).2
  subst this
  exact LnOk.new, h⟩
theorem sum_set (l : List Nat) : ∀ (k : Nat) (a b : Nat), l[k]? = some a → (l.set k b).sum + a = l.sum + b := by
  induction l with
  | nil => intro k a b h; simp at h
  | cons x l ih =>
    intro k a b h
    cases k with
    | zero => simp at h; subst h; simp; omega
    | succ k =>
      simp only [List.getElem?_cons_succ] at h
      have := ih k a b h
      simp only [List.set_cons_succ, List.sum_cons]
      omega
theorem CwOk.stepAt {l : List Cd} (hp : pv l = true) {n : Nat} (n8 : n ≤ 8) {c : Cw} (h : CwOk l n c) {k : Nat} (hk : k < n) (hlt : (c.lane k).pos < l.length) :
    CwOk l n (stepAt l c k) ∧ leftC l (stepAt l c k) < leftC l c ∧ (Proofs.Ytelbfeidpcojmaa.stepAt l c k).mem.length = c.mem.length := by
  obtain ⟨h1, h2⟩ := h.at_ hk
  obtain ⟨s1, s2, s3, s4⟩ := h2.step hp hlt (id := k) (by omega) h.words
  refine ⟨⟨by simp [Proofs.Ytelbfeidpcojmaa.stepAt, h.len], fun s hs => ?_, s3⟩, ?_, s4⟩
  · rcases List.mem_or_eq_of_mem_set hs with hs | rfl
    · exact h.lane s hs
    · exact s1
  · unfold leftC
    simp only [Proofs.Ytelbfeidpcojmaa.stepAt, List.map_set]
    have := sum_set (c.ls.map (leftOf l)) k (leftOf l (c.lane k)) (leftOf l (stepL l k (c.lane k) c.mem).1) (by rw [List.getElem?_map, h1]; rfl)
    omega
theorem lane_stepAt {l : List Cd} {c : Cw} {k j : Nat} (h : j ≠ k) : (stepAt l c k).lane j = c.lane j := by
  simp [stepAt, Cw.lane, List.getD_eq_getElem?_getD, List.getElem?_set_ne (fun e => h e.symm)]
theorem CwOk.passC {l : List Cd} {n : Nat} {c : Cw} (h : CwOk l n c) : CwOk l n (passC l c) ∧ leftC l (passC l c) = leftC l c ∧ (Proofs.Ytelbfeidpcojmaa.passC l c).mem = c.mem := by
  unfold Proofs.Ytelbfeidpcojmaa.passC
  split
  · exact ⟨h, rfl, rfl⟩
  · refine ⟨⟨by simp [h.len], fun s hs => ?_, h.words⟩, ?_, rfl⟩
    · simp only [List.mem_map] at hs
      obtain ⟨t, ht, rfl⟩ := hs
      exact (h.lane t ht).free false
    · unfold leftC
      simp only [List.map_map]
      congr 1
/-- Steps of different lanes that go. -/
theorem CwOk.steps {l : List Cd} (hp : pv l = true) {n : Nat} (n8 : n ≤ 8) : ∀ (ks : List Nat) (c : Cw), CwOk l n c → ks.Nodup → (∀ k ∈ ks, k < n ∧ (c.lane k).pos < l.length) →
    CwOk l n (ks.foldl (Proofs.Ytelbfeidpcojmaa.stepAt l) c) ∧ leftC l (ks.foldl (Proofs.Ytelbfeidpcojmaa.stepAt l) c) + ks.length ≤ leftC l c ∧ (ks.foldl (Proofs.Ytelbfeidpcojmaa.stepAt l) c).mem.length = c.mem.length
  | [], c, h, _, _ => ⟨h, by simp, rfl⟩
  | k :: ks, c, h, hnd, hks => by
    obtain ⟨h1, h2⟩ := hks k List.mem_cons_self
    obtain ⟨a1, a2, a3⟩ := h.stepAt hp n8 h1 h2
    have hnd' := List.nodup_cons.1 hnd
    obtain ⟨b1, b2, b3⟩ := CwOk.steps hp n8 ks (Proofs.Ytelbfeidpcojmaa.stepAt l c k) a1 hnd'.2 (fun j hj => by
      obtain ⟨g1, g2⟩ := hks j (List.mem_cons_of_mem _ hj)
      have e3 : (Proofs.Ytelbfeidpcojmaa.stepAt l c k).lane j = c.lane j := lane_stepAt (fun e => by subst e; exact hnd'.1 hj)
      rw [e3]
      exact ⟨g1, g2⟩)
    simp only [List.foldl_cons, List.length_cons]
    exact ⟨b1, by omega, by omega⟩
theorem among_sub {l : List Cd} {c : Cw} {ks : List Nat} {k : Nat} (h : k ∈ amongL l c ks) : k ∈ ks ∧ goesL l (c.lane k) = true := by
  have h' := List.mem_filter.1 h
  simp only [Bool.and_eq_true] at h'
  exact ⟨h'.1, h'.2.1⟩
theorem goes_pos {l : List Cd} {s : Ln} (h : goesL l s = true) : s.waits = false ∧ s.pos < l.length := by
  simpa [goesL] using h
/-- The least place of the lanes that go is that of one of them. -/
theorem leastP_fold {l : List Cd} {c : Cw} : ∀ (ks : List Nat) (p : Nat), p ≤ l.length →
    (ks.foldl (fun p k => if goesL l (c.lane k) && decide ((c.lane k).pos < p) then (c.lane k).pos else p) p = p ∧ (∀ k ∈ ks, goesL l (c.lane k) = true → p ≤ (c.lane k).pos) ∨
      ∃ k ∈ ks, goesL l (c.lane k) = true ∧ (c.lane k).pos < p ∧ ks.foldl (fun p k => if goesL l (c.lane k) && decide ((c.lane k).pos < p) then (c.lane k).pos else p) p = (c.lane k).pos ∧ (∀ j ∈ ks, goesL l (c.lane j) = true → (c.lane k).pos ≤ (c.lane j).pos))
  | [], p, _ => .inl ⟨rfl, fun k hk => by cases hk⟩
  | k :: ks, p, hp => by
    simp only [List.foldl_cons]
    by_cases hg : (goesL l (c.lane k) && decide ((c.lane k).pos < p)) = true
    · rw [if_pos hg]
      simp only [Bool.and_eq_true, decide_eq_true_eq] at hg
      rcases leastP_fold (l := l) (c := c) ks (c.lane k).pos (by omega) with ⟨e, h⟩ | ⟨j, hj, h1, h2, h3, h4⟩
      · refine .inr ⟨k, List.mem_cons_self, hg.1, hg.2, e, fun j hj hgj => ?_⟩
        rcases List.mem_cons.1 hj with rfl | hj
        · exact Nat.le_refl _
        · exact h j hj hgj
      · refine .inr ⟨j, List.mem_cons_of_mem _ hj, h1, by omega, h3, fun i hi hgi => ?_⟩
        rcases List.mem_cons.1 hi with rfl | hi
        · omega
        · exact h4 i hi hgi
    · rw [if_neg hg]
      have hk : goesL l (c.lane k) = true → p ≤ (c.lane k).pos := fun h => by
        simp only [h, Bool.true_and, decide_eq_true_eq] at hg
        omega
      rcases leastP_fold (l := l) (c := c) ks p hp with ⟨e, h⟩ | ⟨j, hj, h1, h2, h3, h4⟩
      · refine .inl ⟨e, fun j hj hgj => ?_⟩
        rcases List.mem_cons.1 hj with rfl | hj
        · exact hk hgj
        · exact h j hj hgj
      · refine .inr ⟨j, List.mem_cons_of_mem _ hj, h1, h2, h3, fun i hi hgi => ?_⟩
        rcases List.mem_cons.1 hi with rfl | hi
        · have := hk hgi; omega
        · exact h4 i hi hgi
theorem among_some {l : List Cd} {c : Cw} {ks : List Nat} {k : Nat} (hk : k ∈ ks) (hg : goesL l (c.lane k) = true) : amongL l c ks ≠ [] := by
  have hpos := (goes_pos hg).2
  rcases leastP_fold (l := l) (c := c) ks l.length (Nat.le_refl _) with ⟨-, h⟩ | ⟨j, hj, h1, h2, h3, h4⟩
  · have := h k hk hg; omega
  · intro e
    have : j ∈ amongL l c ks := List.mem_filter.2 ⟨hj, by
      have : leastP l c ks = (c.lane j).pos := h3
      simp [h1, this]⟩
    rw [e] at this; cases this
theorem among_none {l : List Cd} {c : Cw} {ks : List Nat} (h : ∀ k ∈ ks, goesL l (c.lane k) = false) : amongL l c ks = [] := by
  unfold amongL
  rw [List.filter_eq_nil_iff]
  intro k hk
  simp [h k hk]

/-! ### Every run ends -/
/-- Some lane goes, or all are at the end and none waits. -/
def NrmC (l : List Cd) (c : Cw) : Prop := c.ls.any (goesL l) = true ∨ (overC l c = true ∧ ∀ s ∈ c.ls, s.waits = false)
theorem nrm_pass {l : List Cd} {n : Nat} {c : Cw} (h : CwOk l n c) (hp : pv l = true) : NrmC l (passC l c) := by
  unfold passC
  split
  · rename_i hg; exact .inl hg
  · rename_i hg
    by_cases h2 : (c.ls.map fun s => { s with waits := false }).any (goesL l) = true
    · exact .inl h2
    · right
      simp only [List.any_eq_true, not_exists, not_and] at h2
      refine ⟨?_, fun s hs => by
        simp only [List.mem_map] at hs
        obtain ⟨t, _, rfl⟩ := hs
        rfl⟩
      unfold overC
      rw [List.all_eq_true]
      intro s hs
      have := h2 s hs
      simp only [List.mem_map] at hs
      obtain ⟨t, _, rfl⟩ := hs
      simp only [goesL, Bool.not_false, Bool.true_and, decide_eq_true_eq] at this
      simp only [decide_eq_true_eq]
      omega
theorem go_of {l : List Cd} {n : Nat} {c : Cw} (h : CwOk l n c) (hg : c.ls.any (goesL l) = true) : ∃ k, k < n ∧ goesL l (c.lane k) = true := by
  rw [List.any_eq_true] at hg
  obtain ⟨s, hs, hgs⟩ := hg
  obtain ⟨k, hk, rfl⟩ := List.getElem_of_mem hs
  refine ⟨k, by rw [← h.len]; exact hk, ?_⟩
  have : c.lane k = c.ls[k] := by simp [Cw.lane, List.getD_eq_getElem?_getD, hk]
  rw [this]; exact hgs
theorem start_nrm {l : List Cd} {n : Nat} (hn : 1 ≤ n) (mem : List Int) : NrmC l (Cw.start n mem) := by
  by_cases h0 : 0 < l.length
  · left
    rw [List.any_eq_true]
    exact ⟨Ln.new, List.mem_replicate.2 ⟨by omega, rfl⟩, by simp [goesL, Ln.new, h0]⟩
  · right
    refine ⟨?_, fun s hs => by rw [(List.mem_replicate.1 hs).2]; rfl⟩
    unfold overC
    rw [List.all_eq_true]
    intro s hs
    rw [(List.mem_replicate.1 hs).2]
    exact decide_eq_true (show l.length ≤ 0 by omega)
theorem CwOk.stepG {l : List Cd} (hp : pv l = true) {n : Nat} (n8 : n ≤ 8) {c : Cw} (h : CwOk l n c) {ks : List Nat} (hnd : ks.Nodup) (hks : ∀ k ∈ ks, k < n) :
    CwOk l n (stepG l c ks) ∧ NrmC l (Proofs.Ytelbfeidpcojmaa.stepG l c ks) ∧ leftC l (Proofs.Ytelbfeidpcojmaa.stepG l c ks) + (amongL l c ks).length ≤ leftC l c ∧ (Proofs.Ytelbfeidpcojmaa.stepG l c ks).mem.length = c.mem.length := by
  have hnd' : (amongL l c ks).Nodup := hnd.filter _
  obtain ⟨a1, a2, a3⟩ := CwOk.steps hp n8 (amongL l c ks) c h hnd' (fun k hk => by
    obtain ⟨g1, g2⟩ := among_sub hk
    exact ⟨hks k g1, (goes_pos g2).2⟩)
  obtain ⟨b1, b2, b3⟩ := a1.passC
  refine ⟨b1, nrm_pass a1 hp, ?_, ?_⟩
  · show leftC l (Proofs.Ytelbfeidpcojmaa.passC l _) + _ ≤ _
    rw [b2]; exact a2
  · show (Proofs.Ytelbfeidpcojmaa.passC l _).mem.length = _
    rw [b3]; exact a3
theorem stepG_idle {l : List Cd} {c : Cw} {ks : List Nat} (h : amongL l c ks = []) (hg : c.ls.any (goesL l) = true) : stepG l c ks = c := by
  unfold stepG
  rw [h]
  simp only [List.foldl_nil]
  unfold passC
  rw [if_pos hg]
theorem runC_shift (l : List Cd) (sch : Nat → List Nat) (c : Cw) (t : Nat) : ∀ i, runC l (fun j => sch (t + j)) (runC l sch c t) i = runC l sch c (t + i)
  | 0 => rfl
  | i + 1 => by
    show stepG l (runC l (fun j => sch (t + j)) (runC l sch c t) i) (sch (t + i)) = stepG l (runC l sch c (t + i)) (sch (t + i))
    rw [runC_shift l sch c t i]
structure SchOk (n P : Nat) (sch : Nat → List Nat) : Prop where
  nd : ∀ i, (sch i).Nodup
  lt : ∀ i, ∀ k ∈ sch i, k < n
  cov : ∀ k, k < n → ∀ i, ∃ j, i ≤ j ∧ j < i + P ∧ k ∈ sch j
theorem SchOk.shift {n P : Nat} {sch : Nat → List Nat} (h : SchOk n P sch) (t : Nat) : SchOk n P fun j => sch (t + j) :=
  ⟨fun i => h.nd _, fun i => h.lt _, fun k hk i => by
    obtain ⟨j, h1, h2, h3⟩ := h.cov k hk (t + i)
    exact ⟨j - t, by omega, by omega, by rw [show t + (j - t) = j by omega]; exact h3⟩⟩
/-- As long as no lane of the groups goes, nothing happens. -/
theorem idle_run {l : List Cd} {n P : Nat} {sch : Nat → List Nat} {c : Cw} (hg : c.ls.any (goesL l) = true) : ∀ t, (∀ i, i < t → amongL l c (sch i) = []) → runC l sch c t = c
  | 0, _ => rfl
  | t + 1, h => by
    have ih := idle_run (n := n) (P := P) hg t (fun i hi => h i (by omega))
    show stepG l (runC l sch c t) (sch t) = c
    rw [ih]
    exact stepG_idle (h t (by omega)) hg
theorem run_ok' {l : List Cd} (hp : pv l = true) {n P : Nat} (n8 : n ≤ 8) {sch : Nat → List Nat} (hs : SchOk n P sch) {c : Cw} (h : CwOk l n c) (hn : NrmC l c) : ∀ i, CwOk l n (runC l sch c i) ∧ NrmC l (runC l sch c i) ∧ (runC l sch c i).mem.length = c.mem.length
  | 0 => ⟨h, hn, rfl⟩
  | i + 1 => by
    obtain ⟨h1, h2, h3⟩ := run_ok' hp n8 hs h hn i
    obtain ⟨g1, g2, g3, g4⟩ := h1.stepG hp n8 (hs.nd i) (hs.lt i)
    exact ⟨g1, g2, by rw [← h3]; exact g4⟩
theorem run_ends {l : List Cd} (hp : pv l = true) {n P : Nat} (n8 : n ≤ 8) : ∀ (N : Nat) (sch : Nat → List Nat) (c : Cw), SchOk n P sch → CwOk l n c → NrmC l c → leftC l c ≤ N → ∃ T, T ≤ P * N ∧ overC l (runC l sch c T) = true
  | N, sch, c, hs, h, hn, hN => by
    rcases hn with hg | ⟨ho, -⟩
    · obtain ⟨k, hk, hgk⟩ := go_of h hg
      obtain ⟨j, -, hj, hkj⟩ := hs.cov k hk 0
      -- the first group in which a lane goes
      have hex : ∃ t, t < P ∧ amongL l c (sch t) ≠ [] ∧ ∀ i, i < t → amongL l c (sch i) = [] := by
        have : ∀ b, amongL l c (sch b) ≠ [] → ∃ t, t ≤ b ∧ amongL l c (sch t) ≠ [] ∧ ∀ i, i < t → amongL l c (sch i) = [] := by
          intro b
          induction b using Nat.strongRecOn with
          | ind b ih =>
            intro hb
            by_cases hall : ∀ i, i < b → amongL l c (sch i) = []
            · exact ⟨b, Nat.le_refl _, hb, hall⟩
            · have hall2 := Classical.not_forall.1 hall
              obtain ⟨i, hi⟩ := hall2
              have hi2 := Classical.not_imp.1 hi
              obtain ⟨t, h1, h2, h3⟩ := ih i hi2.1 hi2.2
              exact ⟨t, by omega, h2, h3⟩
        obtain ⟨t, h1, h2, h3⟩ := this j (among_some hkj hgk)
        exact ⟨t, by omega, h2, h3⟩
      obtain ⟨t, ht, hne, hidle⟩ := hex
      have e1 := idle_run (n := n) (P := P) hg t hidle
      obtain ⟨g1, g2, g3, -⟩ := h.stepG hp n8 (hs.nd t) (hs.lt t)
      have hpos : 1 ≤ (amongL l c (sch t)).length := List.length_pos_iff.2 hne
      have e2 : runC l sch c (t + 1) = stepG l c (sch t) := by
        show stepG l (runC l sch c t) (sch t) = _
        rw [e1]
      match N, hN with
      | 0, hN => omega
      | N + 1, hN =>
        obtain ⟨T, hT, ho⟩ := run_ends hp n8 N (fun i => sch (t + 1 + i)) (stepG l c (sch t)) (hs.shift (t + 1)) g1 g2 (by omega)
        refine ⟨t + 1 + T, by rw [Nat.mul_succ]; omega, ?_⟩
        rw [← e2, runC_shift] at ho
        exact ho
    · exact ⟨0, Nat.zero_le _, ho⟩


theorem l4Opens_c (x : Cd) (w : World) :
    Calls Try.prog 107 #[x.val] w fun e w' => e = .returned (.bool (opB x)) ∧ Below w.heap.size w w' := by
  obtain ⟨o, a, b, c⟩ := x
  unfold Cd.val
  go_enter Try.func107, Try.ntmps107
  go_wp2
  all_goals go_ret
  all_goals refine ⟨retb ?_, (by repeat (first | exact Below.refl _ _ | assumption | refine Below.alloc ?_ (by simp <;> omega) _ | refine Below.setCell ?_ (by simp <;> omega) _ | refine Below.drew ?_))⟩
  all_goals (simp_all [opB])

theorem scanE_step {l : List Cd} {k : Nat} {x : Cd} (hx : l[k]? = some x) (d : Nat) (o : Int) : scanE (l.drop k) k d o =
    if opB x then scanE (l.drop (k + 1)) (k + 1) (d + 1) o
    else if x.op == 12 && d == 0 then scanE (l.drop (k + 1)) (k + 1) d k
    else if x.op == 14 && d == 0 then ((k : Int), o)
    else if x.op == 14 then scanE (l.drop (k + 1)) (k + 1) (d - 1) o
    else scanE (l.drop (k + 1)) (k + 1) d o := by
  rw [drop_get hx, scanE]

def E4Rel (w : World) (l : List Cd) (n : Nat) (kv dv ov : Value) (wr : World) : Prop :=
  ∃ (k d : Nat) (o : Int), k ≤ l.length ∧ kv = .int .i64 k ∧ dv = .int .i64 d ∧ ov = .int .i64 o ∧ d ≤ k ∧ Hid (endOf l n = scanE (l.drop k) k d o) ∧ Below w.heap.size w wr

set_option maxRecDepth 100000 in
set_option maxHeartbeats 4000000 in
theorem l4End_c (A : Option Addr) (c : Nat) (l : List Cd) (n : Nat) (w : World) (hA : RdC w w.heap.size A l) (hl : l.length ≤ 1000000000) (hn : n < l.length) :
    Calls Try.prog 77 #[.slice A l.length c, .int .i64 n] w fun e w' => e = .returned (.tuple #[.int .i64 (endOf l n).1, .int .i64 (endOf l n).2]) ∧ Below w.heap.size w w' := by
  go_enter Try.func77, Try.ntmps77
  go_wp2
  go_loopw [8, 6, 7] (fun kv dv ov wr => E4Rel w l n kv dv ov wr) (fun kv _ _ _ => l.length - (intOf kv).toNat)
  case atStart => exact ⟨n + 1, 0, -1, by omega, by go_num, rfl, rfl, by omega, rfl, Below.refl _ _⟩
  case round =>
    obtain ⟨k, d, o, hk, rfl, rfl, rfl, hd, HE, hb⟩ := hrel
    by_cases hlt : k < l.length
    · obtain ⟨b, off, x, rfl, hbB, hx, c0, c1, c2, c3⟩ := (hA.below hb).at_ hlt
      have HS := Lib.hid (scanE_step hx d o)
      have HX := Lib.hid hx
      clear hx
      go_wp2_with fail
      refine (l4Opens_c x _).mono ?_
      rintro e w1 ⟨rfl, hb1⟩
      replace c0 := cell_kept hb1 c0
      have hb2 := below_trans hb (Nat.le_refl _) hb1
      clear c1 c2 c3
      cases hop : opB x with
      | true =>
        have HO := Lib.hid hop
        clear hop
        go_wp2
        go_roundw
        case rel => exact ⟨k + 1, d + 1, o, by omega, by go_num, by go_num, rfl, by omega, Lib.hid (by rw [HE.out, HS.out, HO.out]; rfl), hb2⟩
        case measure => simp [intOf]; omega
      | false =>
        have HO := Lib.hid hop
        clear hop
        cases e12 : x.op == 12 with
        | true =>
          have h12 : x.op = 12 := beq_iff_eq.1 e12
          have e14 : (x.op == 14) = false := by rw [h12]; rfl
          have H12 := Lib.hid e12
          have H14 := Lib.hid e14
          clear h12
          by_cases hd0 : d = 0
          · subst hd0
            go_wp2
            go_roundw
            case rel => exact ⟨k + 1, 0, k, by omega, by go_num, rfl, rfl, by omega, Lib.hid (by rw [HE.out, HS.out, HO.out, H12.out]; rfl), hb2⟩
            case measure => simp [intOf]; omega
          · have ed : ((d : Int) == 0) = false := by rw [beq_eq_false_iff_ne]; omega
            have HD := Lib.hid (show (d == 0) = false by rw [beq_eq_false_iff_ne]; exact hd0)
            go_wp2
            go_roundw
            case rel => exact ⟨k + 1, d, o, by omega, by go_num, rfl, rfl, by omega, Lib.hid (by rw [HE.out, HS.out, HO.out, H12.out, HD.out, H14.out]; rfl), hb2⟩
            case measure => simp [intOf]; omega
        | false =>
          have H12 := Lib.hid e12
          cases e14 : x.op == 14 with
          | true =>
            have H14 := Lib.hid e14
            by_cases hd0 : d = 0
            · subst hd0
              go_wp2
              go_ret2
              have hf : endOf l n = ((k : Int), o) := by rw [HE.out, HS.out, HO.out, H12.out, H14.out]; rfl
              rw [hf]
              exact ⟨rfl, hb2⟩
            · have ed : ((d : Int) == 0) = false := by rw [beq_eq_false_iff_ne]; omega
              have HD := Lib.hid (show (d == 0) = false by rw [beq_eq_false_iff_ne]; exact hd0)
              go_wp2
              go_roundw
              case rel => exact ⟨k + 1, d - 1, o, by omega, by go_num, by (congr 1; first | done | omega), rfl, by omega, Lib.hid (by rw [HE.out, HS.out, HO.out, H12.out, H14.out, HD.out]; rfl), hb2⟩
              case measure => simp [intOf]; omega
          | false =>
            have H14 := Lib.hid e14
            go_wp2
            go_roundw
            case rel => exact ⟨k + 1, d, o, by omega, by go_num, rfl, rfl, by omega, Lib.hid (by rw [HE.out, HS.out, HO.out, H12.out, H14.out]; rfl), hb2⟩
            case measure => simp [intOf]; omega
    · obtain rfl : k = l.length := by omega
      go_wp2
      go_ret2
      have hf : endOf l n = (-1, o) := by rw [HE.out, List.drop_length]; rfl
      rw [hf]
      exact ⟨rfl, hb⟩

def A4Rel (w : World) (l : List Cd) (n : Nat) (kv dv : Value) (wr : World) : Prop :=
  ∃ (k d : Nat), k ≤ n ∧ kv = .int .i64 ((k : Int) - 1) ∧ dv = .int .i64 d ∧ d + k ≤ n ∧ Hid (aroundOf l n = scanA l k d) ∧ Below w.heap.size w wr

set_option maxRecDepth 100000 in
set_option maxHeartbeats 4000000 in
theorem l4Around_c (A : Option Addr) (c : Nat) (l : List Cd) (n : Nat) (w : World) (hA : RdC w w.heap.size A l) (hl : l.length ≤ 1000000000) (hn : n ≤ l.length) :
    Calls Try.prog 78 #[.slice A l.length c, .int .i64 n] w fun e w' => e = .returned (.int .i64 (aroundOf l n)) ∧ Below w.heap.size w w' := by
  go_enter Try.func78, Try.ntmps78
  go_wp2
  go_loopw [6, 5] (fun kv dv wr => A4Rel w l n kv dv wr) (fun kv _ _ => (intOf kv + 1).toNat)
  case atStart => exact ⟨n, 0, Nat.le_refl _, rfl, rfl, by omega, rfl, Below.refl _ _⟩
  case round =>
    obtain ⟨k, d, hk, rfl, rfl, hd, HE, hb⟩ := hrel
    cases k with
    | zero =>
      have h0 : ¬ (0 : Int) ≤ ((0 : Nat) : Int) - 1 := by omega
      go_wp2
      go_ret
      exact ⟨reti (by rw [HE.out]; simp [scanA]), hb⟩
    | succ k =>
      have hlt : k < l.length := by omega
      obtain ⟨b, off, x, rfl, hbB, hx, c0, c1, c2, c3⟩ := (hA.below hb).at_ hlt
      have ek : ((k + 1 : Nat) : Int) - 1 = (k : Int) := by omega
      rw [ek]
      have HS := Lib.hid (scanA_step l k d x hx)
      clear hx ek
      cases e14 : x.op == 14 with
      | true =>
        have hop : opB x = false := by have := beq_iff_eq.1 e14; simp [opB, this]
        have HO := Lib.hid hop
        have H14 := Lib.hid e14
        go_wp2_with fail
        refine (l4Opens_c x _).mono ?_
        rintro e w1 ⟨rfl, hb1⟩
        have hb2 := below_trans hb (Nat.le_refl _) hb1
        clear c0 c1 c2 c3
        go_wp2
        go_roundw
        case rel => exact ⟨k, d + 1, by omega, by go_num, by go_num, by omega, Lib.hid (by rw [HE.out, HS.out, HO.out, H14.out]; rfl), hb2⟩
        case measure => simp [intOf]
      | false =>
        have H14 := Lib.hid e14
        go_wp2_with fail
        refine (l4Opens_c x _).mono ?_
        rintro e w1 ⟨rfl, hb1⟩
        have hb2 := below_trans hb (Nat.le_refl _) hb1
        clear c0 c1 c2 c3
        cases hop : opB x with
        | false =>
          have HO := Lib.hid hop
          clear hop
          go_wp2
          go_roundw
          case rel => exact ⟨k, d, by omega, by go_num, rfl, by omega, Lib.hid (by rw [HE.out, HS.out, HO.out, H14.out]; rfl), hb2⟩
          case measure => simp [intOf]
        | true =>
          have HO := Lib.hid hop
          clear hop
          cases d with
          | zero =>
            go_wp2
            go_ret
            exact ⟨reti (by rw [HE.out, HS.out, HO.out]; rfl), hb2⟩
          | succ d =>
            have ed : (((d + 1 : Nat) : Int) == 0) = false := by rw [beq_eq_false_iff_ne]; omega
            have ed2 : (((d : Int) + 1) == 0) = false := by rw [beq_eq_false_iff_ne]; omega
            go_wp2
            go_roundw
            case rel => exact ⟨k, d, by omega, by go_num, by (congr 1; first | done | omega), by omega, Lib.hid (by rw [HE.out, HS.out, HO.out]; rfl), hb2⟩
            case measure => simp [intOf]


theorem ofInt_nat64 (a : Nat) (h : a < 2 ^ 64) : (BitVec.ofInt 64 (a : Int)).toNat = a := by
  rw [BitVec.toNat_ofInt]
  omega
theorem wrap64_small (n : Int) (h0 : 0 ≤ n) (h1 : n < 9223372036854775808) : IntKind.i64.wrap n = n := by
  simp [IntKind.wrap, IntKind.bits, IntKind.signed]; omega
theorem bits_or64 (a b : Nat) (ha : a < 4611686018427387904) (hb : b < 4611686018427387904) : bits .or .i64 (a : Int) (b : Int) = ((a ||| b : Nat) : Int) := by
  have h : a ||| b < 2 ^ 62 := Nat.or_lt_two_pow (by simpa using ha) (by simpa using hb)
  show IntKind.i64.wrap ((BitVec.ofInt 64 (a : Int) ||| BitVec.ofInt 64 (b : Int)).toNat : Int) = _
  rw [BitVec.toNat_or, ofInt_nat64 a (by omega), ofInt_nat64 b (by omega)]
  exact wrap64_small _ (by omega) (by omega)
theorem bits_and64 (a b : Nat) (ha : a < 4611686018427387904) (hb : b < 4611686018427387904) : bits .and .i64 (a : Int) (b : Int) = ((a &&& b : Nat) : Int) := by
  have h : a &&& b ≤ a := Nat.and_le_left
  show IntKind.i64.wrap ((BitVec.ofInt 64 (a : Int) &&& BitVec.ofInt 64 (b : Int)).toNat : Int) = _
  rw [BitVec.toNat_and, ofInt_nat64 a (by omega), ofInt_nat64 b (by omega)]
  exact wrap64_small _ (by omega) (by omega)
theorem bits_andNot64 (a b : Nat) (ha : a < 4611686018427387904) (hb : b < 4611686018427387904) : bits .andNot .i64 (a : Int) (b : Int) = ((mdiff a b : Nat) : Int) := by
  have h := mdiff_le a b
  have e : (BitVec.ofInt 64 (a : Int) &&& ~~~BitVec.ofInt 64 (b : Int)).toNat = mdiff a b := by
    apply Nat.eq_of_testBit_eq
    intro i
    rw [testBit_mdiff, BitVec.toNat_and, Nat.testBit_and, ofInt_nat64 a (by omega)]
    by_cases hi : i < 64
    · have : (~~~BitVec.ofInt 64 (b : Int)).toNat.testBit i = !b.testBit i := by
        rw [BitVec.testBit_toNat, BitVec.getLsbD_not, ← BitVec.testBit_toNat, ofInt_nat64 b (by omega)]
        simp [hi]
      rw [this]
    · have : a.testBit i = false := Nat.testBit_lt_two_pow (Nat.lt_of_lt_of_le (show a < 2 ^ 64 by omega) (Nat.pow_le_pow_right (by decide) (by omega)))
      simp [this]
  show IntKind.i64.wrap ((BitVec.ofInt 64 (a : Int) &&& ~~~BitVec.ofInt 64 (b : Int)).toNat : Int) = _
  rw [e]
  exact wrap64_small _ (by omega) (by omega)
theorem wrap64_pow (k : Nat) (hk : k ≤ 61) : wrap64 (2 ^ k) = ((2 ^ k : Nat) : Int) := by
  have h : 2 ^ k ≤ 2 ^ 61 := Nat.pow_le_pow_right (by decide) hk
  have e : ((2 : Int) ^ k) = ((2 ^ k : Nat) : Int) := by simp
  obtain ⟨m, hm⟩ : ∃ m, 2 ^ k = m := ⟨_, rfl⟩
  rw [hm] at h e ⊢
  unfold wrap64
  rw [e]
  omega
theorem pow_small (k : Nat) (hk : k ≤ 61) : 2 ^ k < 4611686018427387904 := by
  have h : 2 ^ k ≤ 2 ^ 61 := Nat.pow_le_pow_right (by decide) hk
  omega
/-- 'mask | 1 << k', as the walk has it. -/
theorem or_bit (a k : Nat) (ha : a < 4611686018427387904) (hk : k ≤ 61) : bits .or .i64 (a : Int) (wrap64 (2 ^ k)) = ((a ||| 2 ^ k : Nat) : Int) := by
  rw [wrap64_pow k hk, bits_or64 a _ ha (pow_small k hk)]

theorem shr_cast (u r : Nat) : ((u : Int) / 2 ^ r) = ((u >>> r : Nat) : Int) := by
  rw [Nat.shiftRight_eq_div_pow]
  simp
theorem bit_and (u r : Nat) (hu : u < 65536) : bits .and .i64 ((u : Int) / 2 ^ r) 1 = (((u >>> r) % 2 : Nat) : Int) := by
  have h : u >>> r ≤ u := Nat.shiftRight_le u r
  rw [shr_cast, show (1 : Int) = ((1 : Nat) : Int) from rfl, bits_and64 _ _ (by omega) (by omega), Nat.and_one_is_mod]

theorem sMaskAll_c (n : Int) (w : World) :
    Calls Try.prog 74 #[.int .i64 n] w fun e w' => e = .returned (.int .i64 (maskAllI n)) ∧ w = w' := by
  cases h : inR n 1 8 with
  | false =>
    go_enter Try.func74, Try.ntmps74
    go_wp2_with (go_at_call 72; refine (l1In_c _ _ _ _).mono ?_; rintro e w' ⟨rfl, rfl⟩)
    go_ret
    exact ⟨reti (by simp [maskAllI, h]), rfl⟩
  | true =>
    have h' := inR_iff.1 h
    have h8 : n = 1 ∨ n = 2 ∨ n = 3 ∨ n = 4 ∨ n = 5 ∨ n = 6 ∨ n = 7 ∨ n = 8 := by omega
    clear h h'
    rcases h8 with rfl | rfl | rfl | rfl | rfl | rfl | rfl | rfl
    all_goals
      go_enter Try.func74, Try.ntmps74
      go_wp2_with (go_at_call 72; refine (l1In_c _ _ _ _).mono ?_; rintro e w' ⟨rfl, rfl⟩)
      go_ret
      exact ⟨reti (by decide), rfl⟩

def MORel (xs : List Int) (n : Int) (mv iv : Value) : Prop :=
  ∃ k : Nat, k ≤ xs.length ∧ iv = .int .i64 k ∧ mv = .int .i64 (orBits (xs.take k)) ∧ allIn (xs.take k) n = true

set_option maxHeartbeats 1000000 in
theorem sMaskOf_c (A : Option Addr) (c : Nat) (xs : List Int) (n : Int) (w : World) (hA : RdI w w.heap.size A xs) (hl : xs.length ≤ 1000000000) :
    Calls Try.prog 73 #[.slice A xs.length c, .int .i64 n] w fun e w' => e = .returned (.int .i64 (maskOfI xs n)) ∧ w = w' := by
  cases hn : inR n 1 8 with
  | false =>
    go_enter Try.func73, Try.ntmps73
    go_wp2_with (go_at_call 72; refine (l1In_c _ _ _ _).mono ?_; rintro e w' ⟨rfl, rfl⟩)
    go_ret
    exact ⟨reti (by simp [maskOfI, hn]), rfl⟩
  | true =>
    have hn' := inR_iff.1 hn
    obtain ⟨n1, n8⟩ := hn'
    go_enter Try.func73, Try.ntmps73
    go_wp2_with (go_at_call 72; refine (l1In_c _ _ _ _).mono ?_; rintro e w' ⟨rfl, rfl⟩)
    have HN := Lib.hid hn
    clear hn
    go_loop [5, 6] (fun mv iv => MORel xs n mv iv) (fun _ i => xs.length - (intOf i).toNat)
    case atStart => exact ⟨0, Nat.zero_le _, rfl, rfl, rfl⟩
    case round =>
      obtain ⟨k, hk, rfl, rfl, hall⟩ := hrel
      by_cases hlt : k < xs.length
      · obtain ⟨b, off, x, rfl, hb, hx, hc⟩ := hA.at_ hlt
        have hm := orBits_lt n8 hall
        have HA := Lib.hid hall
        have HO := Lib.hid (orBits_take hx)
        have HT := Lib.hid (allIn_take (n := n) hx)
        have HX := Lib.hid hx
        generalize orBits (xs.take k) = m at *
        clear hall hx
        cases hr : inR x 0 (n - 1) with
        | false =>
          have HF := Lib.hid (allIn_bad HX.out hr)
          go_wp2_with (go_at_call 72; refine (l1In_c _ _ _ _).mono ?_; rintro e w' ⟨rfl, rfl⟩)
          go_ret
          exact ⟨reti (by simp [maskOfI, HF.out]), rfl⟩
        | true =>
          obtain ⟨x1, x2⟩ := inR_iff.1 hr
          obtain ⟨y, rfl⟩ := Int.eq_ofNat_of_zero_le x1
          have HR := Lib.hid hr
          have y7 : y ≤ 7 := by omega
          go_wp2_with (go_at_call 72; refine (l1In_c _ _ _ _).mono ?_; rintro e w' ⟨rfl, rfl⟩)
          go_round
          case rel =>
            have ho := HO.out
            rw [Int.toNat_natCast] at ho
            exact ⟨k + 1, by omega, by go_num, by rw [ho, or_bit _ _ (by omega) (by omega)], by rw [HT.out, HA.out, HR.out]; rfl⟩
          case measure => simp [intOf]; omega
      · obtain rfl : k = xs.length := by omega
        rw [List.take_length] at hall ⊢
        have HA := Lib.hid hall
        clear hall
        go_wp2
        go_ret
        exact ⟨reti (by simp [maskOfI, HN.out, HA.out]), rfl⟩

def grMany (l s : Int) : Int := if inR l 1 8 && inR s 1 8 then (l + s - 1) / s else -1

theorem sGroupsMany_c (l s : Int) (w : World) :
    Calls Try.prog 36 #[.int .i64 l, .int .i64 s] w fun e w' => e = .returned (.int .i64 (grMany l s)) ∧ w = w' := by
  cases h : inR l 1 8 <;> cases h2 : inR s 1 8
  case true.true =>
    have hb : 1 ≤ l ∧ l ≤ 8 ∧ 1 ≤ s ∧ s ≤ 8 := by rw [inR_iff] at h h2; omega
    obtain ⟨b1, b2, b3, b4⟩ := hb
    go_enter Try.func36, Try.ntmps36
    go_wp2_with (go_at_call 72; refine (l1In_c _ _ _ _).mono ?_; rintro e w' ⟨rfl, rfl⟩)
    go_ret
    exact ⟨by simp [grMany, h, h2], rfl⟩
  all_goals
    go_enter Try.func36, Try.ntmps36
    go_wp2_with (go_at_call 72; refine (l1In_c _ _ _ _).mono ?_; rintro e w' ⟨rfl, rfl⟩)
    go_ret
    exact ⟨by simp [grMany, h, h2], rfl⟩

theorem iGroupsMany_c (l s : Int) (w : World) :
    Calls Try.prog 46 #[.int .i64 l, .int .i64 s] w fun e w' => e = .returned (.int .i64 (grMany l s)) ∧ w = w' := by
  cases h : inR l 1 8 <;> cases h2 : inR s 1 8
  case true.true =>
    have hb : 1 ≤ l ∧ l ≤ 8 ∧ 1 ≤ s ∧ s ≤ 8 := by rw [inR_iff] at h h2; omega
    obtain ⟨b1, b2, b3, b4⟩ := hb
    go_enter Try.func46, Try.ntmps46
    go_wp2_with (go_at_call 44; refine (isLanes_c _ _).mono ?_; rintro e w' ⟨rfl, rfl⟩)
    go_ret
    exact ⟨by simp [grMany, h, h2], rfl⟩
  all_goals
    go_enter Try.func46, Try.ntmps46
    go_wp2_with (go_at_call 44; refine (isLanes_c _ _).mono ?_; rintro e w' ⟨rfl, rfl⟩)
    go_ret
    exact ⟨by simp [grMany, h, h2], rfl⟩

/-- The set of c lanes from lo on. -/
def orRange (lo : Nat) : Nat → Nat
  | 0 => 0
  | c + 1 => orRange lo c ||| 2 ^ (lo + c)
theorem orRange_lt (lo : Nat) : ∀ c, lo + c ≤ 16 → orRange lo c < 2 ^ 16
  | 0, _ => by simp [orRange]
  | c + 1, h => Nat.or_lt_two_pow (orRange_lt lo c (by omega)) (Nat.pow_lt_pow_right (by decide) (by omega))

theorem grMany_bd (l s : Int) : -1 ≤ grMany l s ∧ grMany l s ≤ 8 := by
  unfold grMany
  split
  · rename_i h
    simp only [Bool.and_eq_true, inR_iff] at h
    have : (l + s - 1) / s * s ≤ l + s - 1 := Int.ediv_mul_le _ (by omega)
    have h0 : 0 ≤ (l + s - 1) / s := Int.ediv_nonneg (by omega) (by omega)
    refine ⟨by omega, ?_⟩
    rcases (show s = 1 ∨ 2 ≤ s by omega) with h1 | h1
    · subst h1; omega
    · have : (l + s - 1) / s * 2 ≤ (l + s - 1) / s * s := Int.mul_le_mul_of_nonneg_left h1 h0
      omega
  · omega
def gMask (l s n : Nat) : Nat := orRange (n * s) (min (n * s + s) l - n * s)

theorem igroupMask_c (l s n : Nat) (w : World) (h2 : l ≤ 8) (h4 : s ≤ 8) (h5 : n * s ≤ 8) (h6 : n ≤ 8) :
    Calls Try.prog 51 #[.int .i64 l, .int .i64 s, .int .i64 n] w fun e w' => e = .returned (.int .i64 (gMask l s n)) ∧ w = w' := by
  have e1 : ((n : Int) * s) = ((n * s : Nat) : Int) := by simp
  have e2 : (((n : Int) + 1) * s) = ((n * s + s : Nat) : Int) := by rw [Int.add_mul]; simp
  obtain ⟨b, hb⟩ : ∃ b, b = n * s := ⟨_, rfl⟩
  rw [← hb] at e1 e2 h5
  have hp : (0 : Int) ≤ n * s := by omega
  have hp2 : (n : Int) * s ≤ 64 := by omega
  have hq : (0 : Int) ≤ (n + 1) * s := by omega
  have hq2 : ((n : Int) + 1) * s ≤ 72 := by omega
  have HB := Lib.hid hb
  have E1 := Lib.hid e1
  have E2 := Lib.hid e2
  clear hb e1 e2
  go_enter Try.func51, Try.ntmps51
  go_wp2
  go_loop [7, 8] (fun m i => ∃ c : Nat, c ≤ min (b + s) l - b ∧ i = .int .i64 ((b + c : Nat) : Int) ∧ m = .int .i64 (orRange b c)) (fun _ i => 17 - (intOf i).toNat)
  case atStart => exact ⟨0, by omega, by rw [E1.out]; rfl, rfl⟩
  case round =>
    obtain ⟨c, hc, rfl, rfl⟩ := hrel
    have e2 := E2.out
    by_cases h : c < min (b + s) l - b
    · have hlt := orRange_lt b c (by omega)
      have h7 : ((b + c : Nat) : Int) < ((n : Int) + 1) * s := by omega
      have h8 : ((b + c : Nat) : Int) < (l : Int) := by omega
      have hx := or_bit (orRange b c) (b + c) (by omega) (by omega)
      have HX := Lib.hid hx
      clear hx e2
      go_wp2
      all_goals
        go_round
        case rel => exact ⟨c + 1, by omega, by (congr 1 <;> omega), by rw [HX.out]; rfl⟩
        case measure => (simp [intOf]; try omega)
    · have hcc : c = min (b + s) l - b := by omega
      have HC := Lib.hid hcc
      have h7 : ((n : Int) + 1) * s ≤ ((b + c : Nat) : Int) ∨ (l : Int) ≤ ((b + c : Nat) : Int) := by omega
      clear e2 hcc
      rcases h7 with h7 | h7
      all_goals
        go_wp2
      all_goals
        go_ret
        refine ⟨reti ?_, rfl⟩
        have e := HB.out
        rw [gMask, ← e, ← HC.out]

end Go.Proofs.Ytelbfeidpcojmaa
