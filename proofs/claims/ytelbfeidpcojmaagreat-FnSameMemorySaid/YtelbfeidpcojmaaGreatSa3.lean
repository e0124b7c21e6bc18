/- Part 3 of what the claim needs. -/
import Derived.Test.YtelbfeidpcojmaaGreatSa1
import Derived.Test.YtelbfeidpcojmaaGreatSa2
import Derived.Test.YtelbfeidpcojmaaGreatProg
import Derived.WalkKit
import Derived.Outline
import Derived.Handy
import Derived.Lib.Hide
import Derived.WalkSmall
import Derived.OneCell
import Derived.Deep.AppendLies
import Derived.Deep.Draws
import Derived.BigQuiet
import Derived.Deep.QuietTactic
import Derived.StillTailTactics
import Derived.Deep.RegionWith
namespace Go.Proofs.YtelbfeidpcojmaaGreat
open Go.RowKit
set_option linter.unusedVariables false
set_option linter.unusedSimpArgs false

/-- A lane that runs alone. -/
structure Ln where
  regs : List Int
  pos : Nat
  turns : List Int
  waits : Bool
def Ln.new : Ln := ⟨[0, 0, 0, 0], 0, [], false⟩
def goesL (l : List Cd) (s : Ln) : Bool := !s.waits && decide (s.pos < l.length)
/-- Place and turns after a step. -/
def nextP (l : List Cd) (r : List Int) (q : Nat) (ts : List Int) : Nat × List Int :=
  if (cdAt l q).op == 11 then (if rg r (cdAt l q).a == 0 then overN l q else q + 1, ts)
  else if (cdAt l q).op == 12 then (endN l (aroundN l q) + 1, ts)
  else if (cdAt l q).op == 13 then (if rg r (cdAt l q).a == 0 then (overN l q, ts) else (q + 1, ts ++ [(cdAt l q).b - 1]))
  else if (cdAt l q).op == 14 then
    (if opAt l (aroundN l q) == 13 then
      (if decide (0 < ts.getLastD 0) && !(rg r (cdAt l (aroundN l q)).a == 0) then (aroundN l q + 1, ts.dropLast ++ [ts.getLastD 0 - 1]) else (q + 1, ts.dropLast))
    else (q + 1, ts))
  else (q + 1, ts)
def stepL (l : List Cd) (id : Nat) (s : Ln) (m : List Int) : Ln × List Int :=
  (⟨(simp1 (cdAt l s.pos) id s.regs m).1, (nextP l s.regs s.pos s.turns).1, (nextP l s.regs s.pos s.turns).2, (cdAt l s.pos).op == 10⟩, (simp1 (cdAt l s.pos) id s.regs m).2)

/-- The greatest number of steps through a tree. -/
def Blk.all : Blk → Nat
  | .nil => 0
  | .op _ r => 1 + r.all
  | .iff _ t r => t.all + 2 + r.all
  | .ife _ t e r => t.all + e.all + 3 + r.all
  | .loop _ b t r => b.toNat * (t.all + 1) + 1 + r.all
/-- How many steps are left at most, at place q of a tree that begins at place p. -/
def Blk.left : Blk → Nat → Nat → List Int → Option Nat
  | .nil, p, q, ts => if q = p ∧ ts = [] then some 0 else none
  | .op _ r, p, q, ts => if q = p then (if ts = [] then some (1 + r.all) else none) else r.left (p + 1) q ts
  | .iff _ t r, p, q, ts => if q = p then (if ts = [] then some (t.all + 2 + r.all) else none)
      else if q < p + t.flat.length + 2 then (t.left (p + 1) q ts).map fun n => n + 1 + r.all
      else r.left (p + t.flat.length + 2) q ts
  | .ife _ t e r, p, q, ts => if q = p then (if ts = [] then some (t.all + e.all + 3 + r.all) else none)
      else if q < p + t.flat.length + 2 then (t.left (p + 1) q ts).map fun n => n + 1 + r.all
      else if q < p + t.flat.length + e.flat.length + 3 then (e.left (p + t.flat.length + 2) q ts).map fun n => n + 1 + r.all
      else r.left (p + t.flat.length + e.flat.length + 3) q ts
  | .loop _ b t r, p, q, ts => if q = p then (if ts = [] then some (b.toNat * (t.all + 1) + 1 + r.all) else none)
      else if q < p + t.flat.length + 2 then (match ts with
        | [] => none
        | k :: ts' => if 0 ≤ k ∧ k < b then (t.left (p + 1) q ts').map fun n => n + k.toNat * (t.all + 1) + 1 + r.all else none)
      else r.left (p + t.flat.length + 2) q ts

theorem left_start (b : Blk) : ∀ p, b.left p p [] = some b.all := by
  cases b <;> intro p <;> simp [Blk.left, Blk.all]
theorem left_in (b : Blk) : ∀ (p q : Nat) (ts : List Int) (n : Nat), b.left p q ts = some n → p ≤ q ∧ q ≤ p + b.flat.length ∧ (q = p + b.flat.length → ts = [] ∧ n = 0) := by
  induction b with
  | nil =>
    intro p q ts n h
    simp only [Blk.left] at h
    split at h
    · rename_i h'
      injection h with h
      obtain ⟨e1, e2⟩ := h'
      subst e1 e2 h
      simp [Blk.flat]
    · cases h
  | op x r ih =>
    intro p q ts n h
    simp only [Blk.left] at h
    split at h
    · rename_i e
      subst e
      simp [Blk.flat]
    · obtain ⟨h1, h2, h3⟩ := ih _ _ _ _ h
      simp only [Blk.flat, List.length_cons]
      exact ⟨by omega, by omega, fun e => h3 (by omega)⟩
  | iff a t r iht ihr =>
    intro p q ts n h
    simp only [Blk.left] at h
    have hl : (Blk.iff a t r).flat.length = t.flat.length + 2 + r.flat.length := by simp [Blk.flat]; omega
    rw [hl]
    split at h
    · rename_i e
      subst e
      exact ⟨Nat.le_refl _, by omega, fun e => by omega⟩
    · split at h
      · rename_i h1 h2
        cases ht : t.left (p + 1) q ts with
        | none => rw [ht] at h; cases h
        | some k =>
          obtain ⟨h3, h4, -⟩ := iht _ _ _ _ ht
          exact ⟨by omega, by omega, fun e => by omega⟩
      · obtain ⟨h1, h2, h3⟩ := ihr _ _ _ _ h
        exact ⟨by omega, by omega, fun e => h3 (by omega)⟩
  | ife a t e r iht ihe ihr =>
    intro p q ts n h
    simp only [Blk.left] at h
    have hl : (Blk.ife a t e r).flat.length = t.flat.length + e.flat.length + 3 + r.flat.length := by simp [Blk.flat]; omega
    rw [hl]
    split at h
    · rename_i e
      subst e
      exact ⟨Nat.le_refl _, by omega, fun e => by omega⟩
    · split at h
      · rename_i h1 h2
        cases ht : t.left (p + 1) q ts with
        | none => rw [ht] at h; cases h
        | some k =>
          obtain ⟨h3, h4, -⟩ := iht _ _ _ _ ht
          exact ⟨by omega, by omega, fun e => by omega⟩
      · split at h
        · rename_i h1 h2 h3
          cases ht : e.left (p + t.flat.length + 2) q ts with
          | none => rw [ht] at h; cases h
          | some k =>
            obtain ⟨h3, h4, -⟩ := ihe _ _ _ _ ht
            exact ⟨by omega, by omega, fun e => by omega⟩
        · obtain ⟨h1, h2, h3⟩ := ihr _ _ _ _ h
          exact ⟨by omega, by omega, fun e => h3 (by omega)⟩
  | loop a c t r iht ihr =>
    intro p q ts n h
    simp only [Blk.left] at h
    have hl : (Blk.loop a c t r).flat.length = t.flat.length + 2 + r.flat.length := by simp [Blk.flat]; omega
    rw [hl]
    split at h
    · rename_i e
      subst e
      exact ⟨Nat.le_refl _, by omega, fun e => by omega⟩
    · split at h
      · rename_i h1 h2
        cases ts with
        | nil => cases h
        | cons k ts' =>
          simp only at h
          split at h
          · cases ht : t.left (p + 1) q ts' with
            | none => rw [ht] at h; cases h
            | some j =>
              obtain ⟨h3, h4, -⟩ := iht _ _ _ _ ht
              exact ⟨by omega, by omega, fun e => by omega⟩
          · cases h
      · obtain ⟨h1, h2, h3⟩ := ihr _ _ _ _ h
        exact ⟨by omega, by omega, fun e => h3 (by omega)⟩

/-! ### Places -/
section
variable {l : List Cd}
theorem cdAt_drop {q : Nat} {x : Cd} {r : List Cd} (h : l.drop q = x :: r) : cdAt l q = x := by
  obtain ⟨h1, -⟩ := drop_cons h
  unfold cdAt
  rw [h1]
theorem over_iff {q d : Nat} {x : Cd} {t : Blk} {r : List Cd} (ht : t.ok d) (h : l.drop q = x :: (t.flat ++ cEnd :: r)) : overN l q = q + t.flat.length + 2 := by
  obtain ⟨h1, -⟩ := end_iff ht h
  unfold overN elseAt endN
  rw [h1]
  simp; omega
theorem over_ife {q d d' : Nat} {x : Cd} {t e : Blk} {r : List Cd} (ht : t.ok d) (he : e.ok d') (h : l.drop q = x :: (t.flat ++ cElse :: (e.flat ++ cEnd :: r))) : overN l q = q + t.flat.length + 2 ∧ endN l q = q + t.flat.length + e.flat.length + 2 := by
  obtain ⟨h1, -⟩ := end_ife ht he h
  unfold overN elseAt endN
  rw [h1]
  refine ⟨?_, by simp; omega⟩
  have : (0 : Int) ≤ ((q + t.flat.length + 1 : Nat) : Int) := by omega
  rw [if_pos this]
  simp; omega
theorem around_ife {q d d' : Nat} {x : Cd} {t e : Blk} {r : List Cd} (ht : t.ok d) (he : e.ok d') (ho : opB x = true) (h : l.drop q = x :: (t.flat ++ cElse :: (e.flat ++ cEnd :: r))) : aroundN l (q + t.flat.length + e.flat.length + 2) = q := by
  obtain ⟨_, h2, h3, h4⟩ := end_ife ht he h
  have h1 := around_tree ht ho h
  have e1 : l.drop (q + t.flat.length + 1) = cElse :: (e.flat ++ cEnd :: r) := by
    have := drop_skip h2
    rw [← this]; congr 1; omega
  have hx := (drop_cons e1).1
  have hlt := (drop_cons e1).2.2
  have s1 : scanA l (q + t.flat.length + 1 + 1) 0 = scanA l (q + t.flat.length + 1) 0 := scanA_nb hx (by decide) (by decide)
  have s2 := scanA_drop he h3 (by omega)
  unfold aroundN aroundOf at h1 ⊢
  rw [show q + t.flat.length + e.flat.length + 2 = q + t.flat.length + 2 + e.flat.length by omega, s2, show q + t.flat.length + 2 = q + t.flat.length + 1 + 1 by omega, s1]
  exact h1

theorem next_op {q : Nat} {r : List Int} {ts : List Int} (h : (cdAt l q).op ≤ 10) : nextP l r q ts = (q + 1, ts) := by
  have e1 : ((cdAt l q).op == 11) = false := beq_eq_false_iff_ne.2 (by omega)
  have e2 : ((cdAt l q).op == 12) = false := beq_eq_false_iff_ne.2 (by omega)
  have e3 : ((cdAt l q).op == 13) = false := beq_eq_false_iff_ne.2 (by omega)
  have e4 : ((cdAt l q).op == 14) = false := beq_eq_false_iff_ne.2 (by omega)
  simp [nextP, e1, e2, e3, e4]
theorem next_if {q : Nat} {r : List Int} {ts : List Int} {a : Int} (h : cdAt l q = cIf a) : nextP l r q ts = (if rg r a == 0 then overN l q else q + 1, ts) := by
  simp only [nextP, h]; rfl
theorem next_else {q : Nat} {r : List Int} {ts : List Int} (h : cdAt l q = cElse) : nextP l r q ts = (endN l (aroundN l q) + 1, ts) := by
  simp only [nextP, h]; rfl
theorem next_loop {q : Nat} {r : List Int} {ts : List Int} {a b : Int} (h : cdAt l q = cLoop a b) : nextP l r q ts = if rg r a == 0 then (overN l q, ts) else (q + 1, ts ++ [b - 1]) := by
  simp only [nextP, h]; rfl
theorem next_end {q : Nat} {r : List Int} {ts : List Int} (h : cdAt l q = cEnd) : nextP l r q ts = if opAt l (aroundN l q) == 13 then
      (if decide (0 < ts.getLastD 0) && !(rg r (cdAt l (aroundN l q)).a == 0) then (aroundN l q + 1, ts.dropLast ++ [ts.getLastD 0 - 1]) else (q + 1, ts.dropLast))
    else (q + 1, ts) := by
  simp only [nextP, h]; rfl

/-- A step leaves fewer. -/
theorem next_left (b : Blk) : ∀ (d p q : Nat) (rest : List Cd) (pre ts r : List Int) (n : Nat), b.ok d → l.drop p = b.flat ++ rest → q < p + b.flat.length → b.left p q ts = some n →
    ∃ q' ts' n', nextP l r q (pre ++ ts) = (q', pre ++ ts') ∧ b.left p q' ts' = some n' ∧ n' < n := by
  induction b with
  | nil =>
    intro d p q rest pre ts r n _ _ hq h
    obtain ⟨h1, _⟩ := left_in _ _ _ _ _ h
    simp [Blk.flat] at hq
    omega
  | op x s ih =>
    intro d p q rest pre ts r n ⟨hv, ho1, ho, hs⟩ hd hq h
    have hd' : l.drop p = x :: (s.flat ++ rest) := by rw [hd]; simp [Blk.flat]
    obtain ⟨k1, k2, k3⟩ := drop_cons hd'
    simp only [Blk.left] at h
    by_cases e : q = p
    · subst e
      rw [if_pos rfl] at h
      split at h
      · rename_i hts
        subst hts
        injection h with h
        refine ⟨q + 1, [], s.all, next_op (by rw [cdAt_drop hd']; exact ho), ?_, by omega⟩
        simp only [Blk.left, if_neg (show ¬ q + 1 = q by omega)]
        exact left_start s (q + 1)
      · cases h
    · rw [if_neg e] at h
      obtain ⟨q', ts', n', h1, h2, h3⟩ := ih d (p + 1) q rest pre ts r n hs k2 (by simp [Blk.flat] at hq; omega) h
      obtain ⟨g1, -⟩ := left_in _ _ _ _ _ h2
      refine ⟨q', ts', n', h1, ?_, h3⟩
      simp only [Blk.left, if_neg (show ¬ q' = p by omega)]
      exact h2
  | iff a t s iht ihs =>
    intro d p q rest pre ts r n ⟨ha, hd1, ht, hs⟩ hd hq h
    have hd' : l.drop p = cIf a :: (t.flat ++ cEnd :: (s.flat ++ rest)) := by rw [hd]; simp [Blk.flat]
    obtain ⟨-, k2, k3⟩ := end_iff ht hd'
    have hov := over_iff ht hd'
    have har := around_tree ht (show opB (cIf a) = true from rfl) hd'
    have hE : l.drop (p + t.flat.length + 1) = cEnd :: (s.flat ++ rest) := by
      have := drop_skip k2
      rw [← this]; congr 1; omega
    have toS : (Blk.iff a t s).left p (p + t.flat.length + 2) [] = some s.all := by
      simp only [Blk.left, if_neg (show ¬ p + t.flat.length + 2 = p by omega), if_neg (Nat.lt_irrefl _)]
      exact left_start s _
    have toT : ∀ q' ts' k, t.left (p + 1) q' ts' = some k → (Blk.iff a t s).left p q' ts' = some (k + 1 + s.all) := fun q' ts' k hk => by
      obtain ⟨g1, g2, -⟩ := left_in _ _ _ _ _ hk
      simp only [Blk.left, if_neg (show ¬ q' = p by omega), if_pos (show q' < p + t.flat.length + 2 by omega), hk]
      rfl
    have hlen : (Blk.iff a t s).flat.length = t.flat.length + 2 + s.flat.length := by simp [Blk.flat]; omega
    simp only [Blk.left] at h
    by_cases e : q = p
    · subst e
      rw [if_pos rfl] at h
      split at h
      · rename_i hts
        subst hts
        injection h with h
        rw [next_if (cdAt_drop hd'), hov]
        split
        · exact ⟨_, [], _, rfl, toS, by omega⟩
        · exact ⟨_, [], _, rfl, toT _ _ _ (left_start t (q + 1)), by omega⟩
      · cases h
    · rw [if_neg e] at h
      by_cases e2 : q < p + t.flat.length + 2
      · rw [if_pos e2] at h
        cases hk : t.left (p + 1) q ts with
        | none => rw [hk] at h; cases h
        | some k =>
          rw [hk] at h
          simp only [Option.map_some, Option.some.injEq] at h
          obtain ⟨g1, g2, g3⟩ := left_in _ _ _ _ _ hk
          by_cases e3 : q = p + 1 + t.flat.length
          · obtain ⟨rfl, rfl⟩ := g3 e3
            have e4 : q = p + t.flat.length + 1 := by omega
            subst e4
            rw [next_end (cdAt_drop hE), har, opAt_drop hd']
            refine ⟨_, [], _, rfl, toS, by omega⟩
          · obtain ⟨q', ts', n', h1, h2, h3⟩ := iht _ (p + 1) q _ pre ts r k ht k2 (by omega) hk
            exact ⟨q', ts', _, h1, toT _ _ _ h2, by omega⟩
      · rw [if_neg e2] at h
        obtain ⟨q', ts', n', h1, h2, h3⟩ := ihs d (p + t.flat.length + 2) q rest pre ts r n hs k3 (by omega) h
        obtain ⟨g1, -⟩ := left_in _ _ _ _ _ h2
        refine ⟨q', ts', n', h1, ?_, h3⟩
        simp only [Blk.left, if_neg (show ¬ q' = p by omega), if_neg (show ¬ q' < p + t.flat.length + 2 by omega)]
        exact h2
  | ife a t e s iht ihe ihs =>
    intro d p q rest pre ts r n ⟨ha, hd1, ht, he, hs⟩ hd hq h
    have hd' : l.drop p = cIf a :: (t.flat ++ cElse :: (e.flat ++ cEnd :: (s.flat ++ rest))) := by rw [hd]; simp [Blk.flat]
    obtain ⟨-, k2, k4, k3⟩ := end_ife ht he hd'
    obtain ⟨hov, hen⟩ := over_ife ht he hd'
    have har := around_tree ht (show opB (cIf a) = true from rfl) hd'
    have har2 := around_ife ht he (show opB (cIf a) = true from rfl) hd'
    have hE : l.drop (p + t.flat.length + 1) = cElse :: (e.flat ++ cEnd :: (s.flat ++ rest)) := by
      have := drop_skip k2
      rw [← this]; congr 1; omega
    have hE2 : l.drop (p + t.flat.length + e.flat.length + 2) = cEnd :: (s.flat ++ rest) := by
      have := drop_skip k4
      rw [← this]; congr 1; omega
    have toS : (Blk.ife a t e s).left p (p + t.flat.length + e.flat.length + 3) [] = some s.all := by
      simp only [Blk.left, if_neg (show ¬ p + t.flat.length + e.flat.length + 3 = p by omega), if_neg (show ¬ p + t.flat.length + e.flat.length + 3 < p + t.flat.length + 2 by omega), if_neg (Nat.lt_irrefl _)]
      exact left_start s _
    have toT : ∀ q' ts' k, t.left (p + 1) q' ts' = some k → (Blk.ife a t e s).left p q' ts' = some (k + 1 + s.all) := fun q' ts' k hk => by
      obtain ⟨g1, g2, -⟩ := left_in _ _ _ _ _ hk
      simp only [Blk.left, if_neg (show ¬ q' = p by omega), if_pos (show q' < p + t.flat.length + 2 by omega), hk]
      rfl
    have toE : ∀ q' ts' k, e.left (p + t.flat.length + 2) q' ts' = some k → (Blk.ife a t e s).left p q' ts' = some (k + 1 + s.all) := fun q' ts' k hk => by
      obtain ⟨g1, g2, -⟩ := left_in _ _ _ _ _ hk
      simp only [Blk.left, if_neg (show ¬ q' = p by omega), if_neg (show ¬ q' < p + t.flat.length + 2 by omega), if_pos (show q' < p + t.flat.length + e.flat.length + 3 by omega), hk]
      rfl
    have hlen : (Blk.ife a t e s).flat.length = t.flat.length + e.flat.length + 3 + s.flat.length := by simp [Blk.flat]; omega
    simp only [Blk.left] at h
    by_cases e0 : q = p
    · subst e0
      rw [if_pos rfl] at h
      split at h
      · rename_i hts
        subst hts
        injection h with h
        rw [next_if (cdAt_drop hd'), hov]
        split
        · exact ⟨_, [], _, rfl, toE _ _ _ (left_start e _), by omega⟩
        · exact ⟨_, [], _, rfl, toT _ _ _ (left_start t (q + 1)), by omega⟩
      · cases h
    · rw [if_neg e0] at h
      by_cases e2 : q < p + t.flat.length + 2
      · rw [if_pos e2] at h
        cases hk : t.left (p + 1) q ts with
        | none => rw [hk] at h; cases h
        | some k =>
          rw [hk] at h
          simp only [Option.map_some, Option.some.injEq] at h
          obtain ⟨g1, g2, g3⟩ := left_in _ _ _ _ _ hk
          by_cases e3 : q = p + 1 + t.flat.length
          · obtain ⟨rfl, rfl⟩ := g3 e3
            have e4 : q = p + t.flat.length + 1 := by omega
            subst e4
            rw [next_else (cdAt_drop hE), har, hen]
            refine ⟨_, [], _, rfl, toS, by omega⟩
          · obtain ⟨q', ts', n', h1, h2, h3⟩ := iht _ (p + 1) q _ pre ts r k ht k2 (by omega) hk
            exact ⟨q', ts', _, h1, toT _ _ _ h2, by omega⟩
      · rw [if_neg e2] at h
        by_cases e5 : q < p + t.flat.length + e.flat.length + 3
        · rw [if_pos e5] at h
          cases hk : e.left (p + t.flat.length + 2) q ts with
          | none => rw [hk] at h; cases h
          | some k =>
            rw [hk] at h
            simp only [Option.map_some, Option.some.injEq] at h
            obtain ⟨g1, g2, g3⟩ := left_in _ _ _ _ _ hk
            by_cases e3 : q = p + t.flat.length + 2 + e.flat.length
            · obtain ⟨rfl, rfl⟩ := g3 e3
              have e4 : q = p + t.flat.length + e.flat.length + 2 := by omega
              subst e4
              rw [next_end (cdAt_drop hE2), har2, opAt_drop hd']
              refine ⟨_, [], _, rfl, toS, by omega⟩
            · obtain ⟨q', ts', n', h1, h2, h3⟩ := ihe _ (p + t.flat.length + 2) q _ pre ts r k he k4 (by omega) hk
              exact ⟨q', ts', _, h1, toE _ _ _ h2, by omega⟩
        · rw [if_neg e5] at h
          obtain ⟨q', ts', n', h1, h2, h3⟩ := ihs d (p + t.flat.length + e.flat.length + 3) q rest pre ts r n hs k3 (by omega) h
          obtain ⟨g1, -⟩ := left_in _ _ _ _ _ h2
          refine ⟨q', ts', n', h1, ?_, h3⟩
          simp only [Blk.left, if_neg (show ¬ q' = p by omega), if_neg (show ¬ q' < p + t.flat.length + 2 by omega), if_neg (show ¬ q' < p + t.flat.length + e.flat.length + 3 by omega)]
          exact h2
  | loop a c t s iht ihs =>
    intro d p q rest pre ts r n ⟨ha, hc, hd1, ht, hs⟩ hd hq h
    have hd' : l.drop p = cLoop a c :: (t.flat ++ cEnd :: (s.flat ++ rest)) := by rw [hd]; simp [Blk.flat]
    obtain ⟨-, k2, k3⟩ := end_iff ht hd'
    have hov := over_iff ht hd'
    have har := around_tree ht (show opB (cLoop a c) = true from rfl) hd'
    have hE : l.drop (p + t.flat.length + 1) = cEnd :: (s.flat ++ rest) := by
      have := drop_skip k2
      rw [← this]; congr 1; omega
    have toS : (Blk.loop a c t s).left p (p + t.flat.length + 2) [] = some s.all := by
      simp only [Blk.left, if_neg (show ¬ p + t.flat.length + 2 = p by omega), if_neg (Nat.lt_irrefl _)]
      exact left_start s _
    have toT : ∀ q' ts' (j : Int) k, 0 ≤ j ∧ j < c → t.left (p + 1) q' ts' = some k → (Blk.loop a c t s).left p q' (j :: ts') = some (k + j.toNat * (t.all + 1) + 1 + s.all) := fun q' ts' j k hj hk => by
      obtain ⟨g1, g2, -⟩ := left_in _ _ _ _ _ hk
      simp only [Blk.left, if_neg (show ¬ q' = p by omega), if_pos (show q' < p + t.flat.length + 2 by omega), if_pos hj, hk]
      rfl
    have hlen : (Blk.loop a c t s).flat.length = t.flat.length + 2 + s.flat.length := by simp [Blk.flat]; omega
    simp only [Blk.left] at h
    by_cases e : q = p
    · subst e
      rw [if_pos rfl] at h
      split at h
      · rename_i hts
        subst hts
        injection h with h
        rw [next_loop (cdAt_drop hd'), hov]
        split
        · exact ⟨_, [], _, rfl, toS, by omega⟩
        · refine ⟨_, [c - 1], _, by rw [List.append_nil], toT _ [] (c - 1) _ (by omega) (left_start t (q + 1)), ?_⟩
          have e1 : c.toNat * (t.all + 1) = (c - 1).toNat * (t.all + 1) + (t.all + 1) := by
            rw [show c.toNat = (c - 1).toNat + 1 by omega, Nat.add_mul]; omega
          omega
      · cases h
    · rw [if_neg e] at h
      by_cases e2 : q < p + t.flat.length + 2
      · rw [if_pos e2] at h
        cases ts with
        | nil => cases h
        | cons j ts =>
          simp only at h
          by_cases hj : 0 ≤ j ∧ j < c
          · rw [if_pos hj] at h
            cases hk : t.left (p + 1) q ts with
            | none => rw [hk] at h; cases h
            | some k =>
              rw [hk] at h
              simp only [Option.map_some, Option.some.injEq] at h
              obtain ⟨g1, g2, g3⟩ := left_in _ _ _ _ _ hk
              by_cases e3 : q = p + 1 + t.flat.length
              · obtain ⟨rfl, rfl⟩ := g3 e3
                have e4 : q = p + t.flat.length + 1 := by omega
                subst e4
                rw [next_end (cdAt_drop hE), har, opAt_drop hd']
                have e13 : ((cLoop a c).op == 13) = true := rfl
                have eL : (pre ++ [j]).getLastD 0 = j := by simp
                have eD : (pre ++ [j]).dropLast = pre := by simp
                rw [if_pos e13, eL, eD]
                split
                · rename_i hh
                  simp only [Bool.and_eq_true, decide_eq_true_eq] at hh
                  refine ⟨_, [j - 1], _, rfl, toT _ [] (j - 1) _ (by omega) (left_start t (p + 1)), ?_⟩
                  have e1 : j.toNat * (t.all + 1) = (j - 1).toNat * (t.all + 1) + (t.all + 1) := by
                    rw [show j.toNat = (j - 1).toNat + 1 by omega, Nat.add_mul]; omega
                  omega
                · exact ⟨_, [], _, by rw [List.append_nil], toS, by omega⟩
              · obtain ⟨q', ts', n', h1, h2, h3⟩ := iht _ (p + 1) q _ (pre ++ [j]) ts r k ht k2 (by omega) hk
                refine ⟨q', j :: ts', _, ?_, toT _ _ _ _ hj h2, by omega⟩
                have e5 : pre ++ j :: ts = pre ++ [j] ++ ts := by simp
                rw [e5, h1]; simp
          · rw [if_neg hj] at h; cases h
      · rw [if_neg e2] at h
        obtain ⟨q', ts', n', h1, h2, h3⟩ := ihs d (p + t.flat.length + 2) q rest pre ts r n hs k3 (by omega) h
        obtain ⟨g1, -⟩ := left_in _ _ _ _ _ h2
        refine ⟨q', ts', n', h1, ?_, h3⟩
        simp only [Blk.left, if_neg (show ¬ q' = p by omega), if_neg (show ¬ q' < p + t.flat.length + 2 by omega)]
        exact h2
end

/-! ### A lane of a valid program -/
structure LnOk (l : List Cd) (s : Ln) : Prop where
  four : s.regs.length = 4
  words : wordsOk s.regs
  left : ∃ n, (treeOf l).left 0 s.pos s.turns = some n
noncomputable def leftOf (l : List Cd) (s : Ln) : Nat := ((treeOf l).left 0 s.pos s.turns).getD 0
theorem leftOf_eq {l : List Cd} {s : Ln} {n : Nat} (h : (treeOf l).left 0 s.pos s.turns = some n) : leftOf l s = n := by unfold leftOf; rw [h]; rfl
theorem LnOk.pos_le {l : List Cd} (hp : pv l = true) {s : Ln} (h : LnOk l s) : s.pos ≤ l.length ∧ (s.pos = l.length → s.turns = []) := by
  obtain ⟨n, hn⟩ := h.left
  obtain ⟨-, h2⟩ := treeOf_spec hp
  obtain ⟨h3, h4, h5⟩ := left_in _ _ _ _ _ hn
  rw [h2] at h4 h5
  exact ⟨by omega, fun e => (h5 (by omega)).1⟩
theorem LnOk.new {l : List Cd} : LnOk l Ln.new := ⟨rfl, fun v hv => by simp [Ln.new] at hv; omega, ⟨_, left_start _ 0⟩⟩
theorem LnOk.free {l : List Cd} {s : Ln} (h : LnOk l s) (b : Bool) : LnOk l { s with waits := b } := ⟨h.four, h.words, h.left⟩
theorem cdAt_ok {l : List Cd} (hp : pv l = true) {k : Nat} (hk : k < l.length) : cvOk (cdAt l k) = true := by
  have : cdAt l k = l[k] := by simp [cdAt, List.getElem?_eq_getElem hk]
  rw [this]
  exact pv_all hp _ (List.getElem_mem hk)
theorem LnOk.step {l : List Cd} (hp : pv l = true) {s : Ln} (h : LnOk l s) (hlt : s.pos < l.length) {id : Nat} (hid : id ≤ 255) {m : List Int} (hm : wordsOk m) :
    LnOk l (stepL l id s m).1 ∧ leftOf l (stepL l id s m).1 < leftOf l s ∧ wordsOk (stepL l id s m).2 ∧ (stepL l id s m).2.length = m.length := by
  obtain ⟨h1, h2⟩ := treeOf_spec hp
  obtain ⟨n, hn⟩ := h.left
  obtain ⟨q', ts', n', e1, e2, e3⟩ := next_left (l := l) (treeOf l) 3 0 s.pos [] [] s.turns s.regs n h1 (by simp [h2]) (by rw [h2]; omega) hn
  simp only [List.nil_append] at e1
  have hw := simp1_words (x := cdAt l s.pos) (id := id) (cdAt_ok hp hlt) hid h.words hm
  have hl := simp1_len (cdAt l s.pos) id s.regs m
  have eP : (stepL l id s m).1.pos = q' := by simp [stepL, e1]
  have eT : (stepL l id s m).1.turns = ts' := by simp [stepL, e1]
  refine ⟨⟨hl.1.trans h.four, hw.1, ⟨n', by rw [eP, eT]; exact e2⟩⟩, ?_, hw.2, hl.2⟩
  rw [leftOf_eq hn]
  have : leftOf l (stepL l id s m).1 = n' := leftOf_eq (by rw [eP, eT]; exact e2)
  omega
theorem all_le (b : Blk) : ∀ d, b.ok d → b.all ≤ 5 ^ d * (2 * b.flat.length) := by
  induction b with
  | nil => intro d _; simp [Blk.all]
  | op x r ih =>
    intro d ⟨_, _, _, hr⟩
    have := ih d hr
    have h1 : 1 ≤ 5 ^ d := Nat.one_le_pow _ _ (by decide)
    simp only [Blk.all, Blk.flat, List.length_cons]
    have e : 5 ^ d * (2 * (r.flat.length + 1)) = 5 ^ d * (2 * r.flat.length) + 2 * 5 ^ d := by
      rw [show 2 * (r.flat.length + 1) = 2 * r.flat.length + 2 by omega, Nat.mul_add]; omega
    omega
  | iff a t r iht ihr =>
    intro d ⟨_, hd, ht, hr⟩
    have h1 := iht (d - 1) ht
    have h2 := ihr d hr
    have h3 : 1 ≤ 5 ^ d := Nat.one_le_pow _ _ (by decide)
    have h4 : 5 ^ (d - 1) * (2 * t.flat.length) ≤ 5 ^ d * (2 * t.flat.length) := Nat.mul_le_mul_right _ (Nat.pow_le_pow_right (by decide) (by omega))
    have hl : (Blk.iff a t r).flat.length = t.flat.length + 2 + r.flat.length := by simp [Blk.flat]; omega
    rw [hl]
    simp only [Blk.all]
    have e : 5 ^ d * (2 * (t.flat.length + 2 + r.flat.length)) = 5 ^ d * (2 * t.flat.length) + 5 ^ d * (2 * r.flat.length) + 4 * 5 ^ d := by
      rw [show 2 * (t.flat.length + 2 + r.flat.length) = 2 * t.flat.length + 2 * r.flat.length + 4 by omega, Nat.mul_add, Nat.mul_add]; omega
    omega
  | ife a t e r iht ihe ihr =>
    intro d ⟨_, hd, ht, he, hr⟩
    have h1 := iht (d - 1) ht
    have h1e := ihe (d - 1) he
    have h2 := ihr d hr
    have h3 : 1 ≤ 5 ^ d := Nat.one_le_pow _ _ (by decide)
    have h4 : 5 ^ (d - 1) * (2 * t.flat.length) ≤ 5 ^ d * (2 * t.flat.length) := Nat.mul_le_mul_right _ (Nat.pow_le_pow_right (by decide) (by omega))
    have h5 : 5 ^ (d - 1) * (2 * e.flat.length) ≤ 5 ^ d * (2 * e.flat.length) := Nat.mul_le_mul_right _ (Nat.pow_le_pow_right (by decide) (by omega))
    have hl : (Blk.ife a t e r).flat.length = t.flat.length + e.flat.length + 3 + r.flat.length := by simp [Blk.flat]; omega
    rw [hl]
    simp only [Blk.all]
    have ee : 5 ^ d * (2 * (t.flat.length + e.flat.length + 3 + r.flat.length)) = 5 ^ d * (2 * t.flat.length) + 5 ^ d * (2 * e.flat.length) + 5 ^ d * (2 * r.flat.length) + 6 * 5 ^ d := by
      rw [show 2 * (t.flat.length + e.flat.length + 3 + r.flat.length) = 2 * t.flat.length + 2 * e.flat.length + 2 * r.flat.length + 6 by omega, Nat.mul_add, Nat.mul_add, Nat.mul_add]; omega
    omega
  | loop a c t r iht ihr =>
    intro d ⟨_, hc, hd, ht, hr⟩
    have h1 := iht (d - 1) ht
    have h2 := ihr d hr
    have h3 : 1 ≤ 5 ^ (d - 1) := Nat.one_le_pow _ _ (by decide)
    have e5 : 5 ^ d = 5 * 5 ^ (d - 1) := by
      obtain ⟨k, rfl⟩ : ∃ k, d = k + 1 := ⟨d - 1, by omega⟩
      rw [Nat.pow_succ]; simp; omega
    have hl : (Blk.loop a c t r).flat.length = t.flat.length + 2 + r.flat.length := by simp [Blk.flat]; omega
    have h6 : c.toNat * (t.all + 1) ≤ 4 * (t.all + 1) := Nat.mul_le_mul_right _ (by omega)
    rw [hl]
    simp only [Blk.all]
    have ee : 5 ^ d * (2 * (t.flat.length + 2 + r.flat.length)) = 5 * (5 ^ (d - 1) * (2 * t.flat.length)) + 5 ^ d * (2 * r.flat.length) + 4 * 5 ^ d := by
      rw [show 2 * (t.flat.length + 2 + r.flat.length) = 2 * t.flat.length + 2 * r.flat.length + 4 by omega, Nat.mul_add, Nat.mul_add]
      have : 5 ^ d * (2 * t.flat.length) = 5 * (5 ^ (d - 1) * (2 * t.flat.length)) := by rw [e5, Nat.mul_assoc]
      omega
    omega
theorem left_le_all (b : Blk) : ∀ (d p q : Nat) (ts : List Int) (n : Nat), b.ok d → b.left p q ts = some n → n ≤ b.all := by
  induction b with
  | nil =>
    intro d p q ts n _ h
    simp only [Blk.left] at h
    split at h
    · injection h with h; omega
    · cases h
  | op x r ih =>
    intro d p q ts n ⟨_, _, _, hr⟩ h
    simp only [Blk.left] at h
    simp only [Blk.all]
    split at h
    · split at h
      · injection h with h; omega
      · cases h
    · have := ih d _ _ _ _ hr h; omega
  | iff a t r iht ihr =>
    intro d p q ts n ⟨_, _, ht, hr⟩ h
    simp only [Blk.left] at h
    simp only [Blk.all]
    split at h
    · split at h
      · injection h with h; omega
      · cases h
    · split at h
      · cases hk : t.left (p + 1) q ts with
        | none => rw [hk] at h; cases h
        | some k =>
          rw [hk] at h
          simp only [Option.map_some, Option.some.injEq] at h
          have := iht _ _ _ _ _ ht hk; omega
      · have := ihr d _ _ _ _ hr h; omega
  | ife a t e r iht ihe ihr =>
    intro d p q ts n ⟨_, _, ht, he, hr⟩ h
    simp only [Blk.left] at h
    simp only [Blk.all]
    split at h
    · split at h
      · injection h with h; omega
      · cases h
    · split at h
      · cases hk : t.left (p + 1) q ts with
        | none => rw [hk] at h; cases h
        | some k =>
          rw [hk] at h
          simp only [Option.map_some, Option.some.injEq] at h
          have := iht _ _ _ _ _ ht hk; omega
      · split at h
        · cases hk : e.left (p + t.flat.length + 2) q ts with
          | none => rw [hk] at h; cases h
          | some k =>
            rw [hk] at h
            simp only [Option.map_some, Option.some.injEq] at h
            have := ihe _ _ _ _ _ he hk; omega
        · have := ihr d _ _ _ _ hr h; omega
  | loop a c t r iht ihr =>
    intro d p q ts n ⟨_, hc, _, ht, hr⟩ h
    simp only [Blk.left] at h
    simp only [Blk.all]
    split at h
    · split at h
      · injection h with h; omega
      · cases h
    · split at h
      · cases ts with
        | nil => cases h
        | cons j ts =>
          simp only at h
          split at h
          · rename_i hj
            cases hk : t.left (p + 1) q ts with
            | none => rw [hk] at h; cases h
            | some k =>
              rw [hk] at h
              simp only [Option.map_some, Option.some.injEq] at h
              have h1 := iht _ _ _ _ _ ht hk
              have e1 : c.toNat * (t.all + 1) ≥ (j.toNat + 1) * (t.all + 1) := Nat.mul_le_mul_right _ (by omega)
              rw [Nat.add_mul] at e1
              omega
          · cases h
      · have := ihr d _ _ _ _ hr h; omega
theorem leftOf_le {l : List Cd} (hp : pv l = true) (s : Ln) : leftOf l s ≤ 10000 := by
  obtain ⟨h1, h2⟩ := treeOf_spec hp
  unfold leftOf
  cases h : (treeOf l).left 0 s.pos s.turns with
  | none => simp
  | some n =>
    have h3 := left_le_all _ 3 _ _ _ _ h1 h
    have h4 := all_le _ 3 h1
    rw [h2] at h4
    have h5 := (pv_iff.1 hp).1
    show n ≤ 10000
    have : 5 ^ 3 * (2 * l.length) ≤ 5 ^ 3 * (2 * 40) := Nat.mul_le_mul_left _ (by omega)
    omega

/-! ### Crowds -/
structure Cw where
  ls : List Ln
  mem : List Int
def Cw.lane (c : Cw) (k : Nat) : Ln := c.ls.getD k Ln.new
def Cw.start (n : Nat) (mem : List Int) : Cw := ⟨List.replicate n Ln.new, mem⟩
def stepAt (l : List Cd) (c : Cw) (k : Nat) : Cw := ⟨c.ls.set k (stepL l k (c.lane k) c.mem).1, (stepL l k (c.lane k) c.mem).2⟩
def passC (l : List Cd) (c : Cw) : Cw := if c.ls.any (goesL l) then c else ⟨c.ls.map fun s => { s with waits := false }, c.mem⟩
def overC (l : List Cd) (c : Cw) : Bool := c.ls.all fun s => decide (l.length ≤ s.pos)
/-- The least place of those of some lanes that go. -/
def leastP (l : List Cd) (c : Cw) (ks : List Nat) : Nat := ks.foldl (fun p k => if goesL l (c.lane k) && decide ((c.lane k).pos < p) then (c.lane k).pos else p) l.length
def amongL (l : List Cd) (c : Cw) (ks : List Nat) : List Nat := ks.filter fun k => goesL l (c.lane k) && decide ((c.lane k).pos = leastP l c ks)
def stepG (l : List Cd) (c : Cw) (ks : List Nat) : Cw := passC l ((amongL l c ks).foldl (stepAt l) c)
def runC (l : List Cd) (sch : Nat → List Nat) (c : Cw) : Nat → Cw
  | 0 => c
  | i + 1 => stepG l (runC l sch c i) (sch i)
structure CwOk (l : List Cd) (n : Nat) (c : Cw) : Prop where
  len : c.ls.length = n
  lane : ∀ s ∈ c.ls, LnOk l s
  words : wordsOk c.mem
noncomputable def leftC (l : List Cd) (c : Cw) : Nat := (c.ls.map (leftOf l)).sum
theorem CwOk.at_ {l : List Cd} {n : Nat} {c : Cw} (h : CwOk l n c) {k : Nat} (hk : k < n) : c.ls[k]? = some (c.lane k) ∧ LnOk l (c.lane k) := by
  have hk' : k < c.ls.length := by rw [h.len]; exact hk
  have e : c.ls[k]? = some (c.lane k) := by simp [Cw.lane, List.getD_eq_getElem?_getD, hk']
  exact ⟨e, h.lane _ (List.mem_of_getElem? e)⟩
theorem CwOk.start {l : List Cd} {n : Nat} {mem : List Int} (h : wordsOk mem) : CwOk l n (Cw.start n mem) := ⟨by simp [Cw.start], fun s hs => by
  have : s = Ln.new := (List.mem_replicate.1 hs).2
  subst this
  exact LnOk.new, h⟩
theorem sum_set (l : List Nat) : ∀ (k : Nat) (a b : Nat), l[k]? = some a → (l.set k b).sum + a = l.sum + b := by
  induction l with
  | nil => intro k a b h; simp at h
  | cons x l ih =>
    intro k a b h
    cases k with
    | zero => simp at h; subst h; simp; omega
    | succ k =>
      simp only [List.getElem?_cons_succ] at h
      have := ih k a b h
      simp only [List.set_cons_succ, List.sum_cons]
      omega
theorem CwOk.stepAt {l : List Cd} (hp : pv l = true) {n : Nat} (n8 : n ≤ 8) {c : Cw} (h : CwOk l n c) {k : Nat} (hk : k < n) (hlt : (c.lane k).pos < l.length) :
    CwOk l n (stepAt l c k) ∧ leftC l (stepAt l c k) < leftC l c ∧ (Proofs.YtelbfeidpcojmaaGreat.stepAt l c k).mem.length = c.mem.length := by
  obtain ⟨h1, h2⟩ := h.at_ hk
  obtain ⟨s1, s2, s3, s4⟩ := h2.step hp hlt (id := k) (by omega) h.words
  refine ⟨⟨by simp [Proofs.YtelbfeidpcojmaaGreat.stepAt, h.len], fun s hs => ?_, s3⟩, ?_, s4⟩
  · rcases List.mem_or_eq_of_mem_set hs with hs | rfl
    · exact h.lane s hs
    · exact s1
  · unfold leftC
    simp only [Proofs.YtelbfeidpcojmaaGreat.stepAt, List.map_set]
    have := sum_set (c.ls.map (leftOf l)) k (leftOf l (c.lane k)) (leftOf l (stepL l k (c.lane k) c.mem).1) (by rw [List.getElem?_map, h1]; rfl)
    omega
theorem lane_stepAt {l : List Cd} {c : Cw} {k j : Nat} (h : j ≠ k) : (stepAt l c k).lane j = c.lane j := by
  simp [stepAt, Cw.lane, List.getD_eq_getElem?_getD, List.getElem?_set_ne (fun e => h e.symm)]
theorem CwOk.passC {l : List Cd} {n : Nat} {c : Cw} (h : CwOk l n c) : CwOk l n (passC l c) ∧ leftC l (passC l c) = leftC l c ∧ (Proofs.YtelbfeidpcojmaaGreat.passC l c).mem = c.mem := by
  unfold Proofs.YtelbfeidpcojmaaGreat.passC
  split
  · exact ⟨h, rfl, rfl⟩
  · refine ⟨⟨by simp [h.len], fun s hs => ?_, h.words⟩, ?_, rfl⟩
    · simp only [List.mem_map] at hs
      obtain ⟨t, ht, rfl⟩ := hs
      exact (h.lane t ht).free false
    · unfold leftC
      simp only [List.map_map]
      congr 1
/-- Steps of different lanes that go. -/
theorem CwOk.steps {l : List Cd} (hp : pv l = true) {n : Nat} (n8 : n ≤ 8) : ∀ (ks : List Nat) (c : Cw), CwOk l n c → ks.Nodup → (∀ k ∈ ks, k < n ∧ (c.lane k).pos < l.length) →
    CwOk l n (ks.foldl (Proofs.YtelbfeidpcojmaaGreat.stepAt l) c) ∧ leftC l (ks.foldl (Proofs.YtelbfeidpcojmaaGreat.stepAt l) c) + ks.length ≤ leftC l c ∧ (ks.foldl (Proofs.YtelbfeidpcojmaaGreat.stepAt l) c).mem.length = c.mem.length
  | [], c, h, _, _ => ⟨h, by simp, rfl⟩
  | k :: ks, c, h, hnd, hks => by
    obtain ⟨h1, h2⟩ := hks k List.mem_cons_self
    obtain ⟨a1, a2, a3⟩ := h.stepAt hp n8 h1 h2
    have hnd' := List.nodup_cons.1 hnd
    obtain ⟨b1, b2, b3⟩ := CwOk.steps hp n8 ks (Proofs.YtelbfeidpcojmaaGreat.stepAt l c k) a1 hnd'.2 (fun j hj => by
      obtain ⟨g1, g2⟩ := hks j (List.mem_cons_of_mem _ hj)
      have e3 : (Proofs.YtelbfeidpcojmaaGreat.stepAt l c k).lane j = c.lane j := lane_stepAt (fun e => by subst e; exact hnd'.1 hj)
      rw [e3]
      exact ⟨g1, g2⟩)
    simp only [List.foldl_cons, List.length_cons]
    exact ⟨b1, by omega, by omega⟩
theorem among_sub {l : List Cd} {c : Cw} {ks : List Nat} {k : Nat} (h : k ∈ amongL l c ks) : k ∈ ks ∧ goesL l (c.lane k) = true := by
  have h' := List.mem_filter.1 h
  simp only [Bool.and_eq_true] at h'
  exact ⟨h'.1, h'.2.1⟩
theorem goes_pos {l : List Cd} {s : Ln} (h : goesL l s = true) : s.waits = false ∧ s.pos < l.length := by
  simpa [goesL] using h
/-- The least place of the lanes that go is that of one of them. -/
theorem leastP_fold {l : List Cd} {c : Cw} : ∀ (ks : List Nat) (p : Nat), p ≤ l.length →
    (ks.foldl (fun p k => if goesL l (c.lane k) && decide ((c.lane k).pos < p) then (c.lane k).pos else p) p = p ∧ (∀ k ∈ ks, goesL l (c.lane k) = true → p ≤ (c.lane k).pos) ∨
      ∃ k ∈ ks, goesL l (c.lane k) = true ∧ (c.lane k).pos < p ∧ ks.foldl (fun p k => if goesL l (c.lane k) && decide ((c.lane k).pos < p) then (c.lane k).pos else p) p = (c.lane k).pos ∧ (∀ j ∈ ks, goesL l (c.lane j) = true → (c.lane k).pos ≤ (c.lane j).pos))
  | [], p, _ => .inl ⟨rfl, fun k hk => by cases hk⟩
  | k :: ks, p, hp => by
    simp only [List.foldl_cons]
    by_cases hg : (goesL l (c.lane k) && decide ((c.lane k).pos < p)) = true
    · rw [if_pos hg]
      simp only [Bool.and_eq_true, decide_eq_true_eq] at hg
      rcases leastP_fold (l := l) (c := c) ks (c.lane k).pos (by omega) with ⟨e, h⟩ | ⟨j, hj, h1, h2, h3, h4⟩
      · refine .inr ⟨k, List.mem_cons_self, hg.1, hg.2, e, fun j hj hgj => ?_⟩
        rcases List.mem_cons.1 hj with rfl | hj
        · exact Nat.le_refl _
        · exact h j hj hgj
      · refine .inr ⟨j, List.mem_cons_of_mem _ hj, h1, by omega, h3, fun i hi hgi => ?_⟩
        rcases List.mem_cons.1 hi with rfl | hi
        · omega
        · exact h4 i hi hgi
    · rw [if_neg hg]
      have hk : goesL l (c.lane k) = true → p ≤ (c.lane k).pos := fun h => by
        simp only [h, Bool.true_and, decide_eq_true_eq] at hg
        omega
      rcases leastP_fold (l := l) (c := c) ks p hp with ⟨e, h⟩ | ⟨j, hj, h1, h2, h3, h4⟩
      · refine .inl ⟨e, fun j hj hgj => ?_⟩
        rcases List.mem_cons.1 hj with rfl | hj
        · exact hk hgj
        · exact h j hj hgj
      · refine .inr ⟨j, List.mem_cons_of_mem _ hj, h1, h2, h3, fun i hi hgi => ?_⟩
        rcases List.mem_cons.1 hi with rfl | hi
        · have := hk hgi; omega
        · exact h4 i hi hgi
theorem among_some {l : List Cd} {c : Cw} {ks : List Nat} {k : Nat} (hk : k ∈ ks) (hg : goesL l (c.lane k) = true) : amongL l c ks ≠ [] := by
  have hpos := (goes_pos hg).2
  rcases leastP_fold (l := l) (c := c) ks l.length (Nat.le_refl _) with ⟨-, h⟩ | ⟨j, hj, h1, h2, h3, h4⟩
  · have := h k hk hg; omega
  · intro e
    have : j ∈ amongL l c ks := List.mem_filter.2 ⟨hj, by
      have : leastP l c ks = (c.lane j).pos := h3
      simp [h1, this]⟩
    rw [e] at this; cases this
theorem among_none {l : List Cd} {c : Cw} {ks : List Nat} (h : ∀ k ∈ ks, goesL l (c.lane k) = false) : amongL l c ks = [] := by
  unfold amongL
  rw [List.filter_eq_nil_iff]
  intro k hk
  simp [h k hk]

/-! ### Every run ends -/
/-- Some lane goes, or all are at the end and none waits. -/
def NrmC (l : List Cd) (c : Cw) : Prop := c.ls.any (goesL l) = true ∨ (overC l c = true ∧ ∀ s ∈ c.ls, s.waits = false)
theorem nrm_pass {l : List Cd} {n : Nat} {c : Cw} (h : CwOk l n c) (hp : pv l = true) : NrmC l (passC l c) := by
  unfold passC
  split
  · rename_i hg; exact .inl hg
  · rename_i hg
    by_cases h2 : (c.ls.map fun s => { s with waits := false }).any (goesL l) = true
    · exact .inl h2
    · right
      simp only [List.any_eq_true, not_exists, not_and] at h2
      refine ⟨?_, fun s hs => by
        simp only [List.mem_map] at hs
        obtain ⟨t, _, rfl⟩ := hs
        rfl⟩
      unfold overC
      rw [List.all_eq_true]
      intro s hs
      have := h2 s hs
      simp only [List.mem_map] at hs
      obtain ⟨t, _, rfl⟩ := hs
      simp only [goesL, Bool.not_false, Bool.true_and, decide_eq_true_eq] at this
      simp only [decide_eq_true_eq]
      omega
theorem go_of {l : List Cd} {n : Nat} {c : Cw} (h : CwOk l n c) (hg : c.ls.any (goesL l) = true) : ∃ k, k < n ∧ goesL l (c.lane k) = true := by
  rw [List.any_eq_true] at hg
  obtain ⟨s, hs, hgs⟩ := hg
  obtain ⟨k, hk, rfl⟩ := List.getElem_of_mem hs
  refine ⟨k, by rw [← h.len]; exact hk, ?_⟩
  have : c.lane k = c.ls[k] := by simp [Cw.lane, List.getD_eq_getElem?_getD, hk]
  rw [this]; exact hgs
theorem start_nrm {l : List Cd} {n : Nat} (hn : 1 ≤ n) (mem : List Int) : NrmC l (Cw.start n mem) := by
  by_cases h0 : 0 < l.length
  · left
    rw [List.any_eq_true]
    exact ⟨Ln.new, List.mem_replicate.2 ⟨by omega, rfl⟩, by simp [goesL, Ln.new, h0]⟩
  · right
    refine ⟨?_, fun s hs => by rw [(List.mem_replicate.1 hs).2]; rfl⟩
    unfold overC
    rw [List.all_eq_true]
    intro s hs
    rw [(List.mem_replicate.1 hs).2]
    exact decide_eq_true (show l.length ≤ 0 by omega)
theorem CwOk.stepG {l : List Cd} (hp : pv l = true) {n : Nat} (n8 : n ≤ 8) {c : Cw} (h : CwOk l n c) {ks : List Nat} (hnd : ks.Nodup) (hks : ∀ k ∈ ks, k < n) :
    CwOk l n (stepG l c ks) ∧ NrmC l (Proofs.YtelbfeidpcojmaaGreat.stepG l c ks) ∧ leftC l (Proofs.YtelbfeidpcojmaaGreat.stepG l c ks) + (amongL l c ks).length ≤ leftC l c ∧ (Proofs.YtelbfeidpcojmaaGreat.stepG l c ks).mem.length = c.mem.length := by
  have hnd' : (amongL l c ks).Nodup := hnd.filter _
  obtain ⟨a1, a2, a3⟩ := CwOk.steps hp n8 (amongL l c ks) c h hnd' (fun k hk => by
    obtain ⟨g1, g2⟩ := among_sub hk
    exact ⟨hks k g1, (goes_pos g2).2⟩)
  obtain ⟨b1, b2, b3⟩ := a1.passC
  refine ⟨b1, nrm_pass a1 hp, ?_, ?_⟩
  · show leftC l (Proofs.YtelbfeidpcojmaaGreat.passC l _) + _ ≤ _
    rw [b2]; exact a2
  · show (Proofs.YtelbfeidpcojmaaGreat.passC l _).mem.length = _
    rw [b3]; exact a3
theorem stepG_idle {l : List Cd} {c : Cw} {ks : List Nat} (h : amongL l c ks = []) (hg : c.ls.any (goesL l) = true) : stepG l c ks = c := by
  unfold stepG
  rw [h]
  simp only [List.foldl_nil]
  unfold passC
  rw [if_pos hg]
theorem runC_shift (l : List Cd) (sch : Nat → List Nat) (c : Cw) (t : Nat) : ∀ i, runC l (fun j => sch (t + j)) (runC l sch c t) i = runC l sch c (t + i)
  | 0 => rfl
  | i + 1 => by
    show stepG l (runC l (fun j => sch (t + j)) (runC l sch c t) i) (sch (t + i)) = stepG l (runC l sch c (t + i)) (sch (t + i))
    rw [runC_shift l sch c t i]
structure SchOk (n P : Nat) (sch : Nat → List Nat) : Prop where
  nd : ∀ i, (sch i).Nodup
  lt : ∀ i, ∀ k ∈ sch i, k < n
  cov : ∀ k, k < n → ∀ i, ∃ j, i ≤ j ∧ j < i + P ∧ k ∈ sch j
theorem SchOk.shift {n P : Nat} {sch : Nat → List Nat} (h : SchOk n P sch) (t : Nat) : SchOk n P fun j => sch (t + j) :=
  ⟨fun i => h.nd _, fun i => h.lt _, fun k hk i => by
    obtain ⟨j, h1, h2, h3⟩ := h.cov k hk (t + i)
    exact ⟨j - t, by omega, by omega, by rw [show t + (j - t) = j by omega]; exact h3⟩⟩
/-- As long as no lane of the groups goes, nothing happens. -/
theorem idle_run {l : List Cd} {n P : Nat} {sch : Nat → List Nat} {c : Cw} (hg : c.ls.any (goesL l) = true) : ∀ t, (∀ i, i < t → amongL l c (sch i) = []) → runC l sch c t = c
  | 0, _ => rfl
  | t + 1, h => by
    have ih := idle_run (n := n) (P := P) hg t (fun i hi => h i (by omega))
    show stepG l (runC l sch c t) (sch t) = c
    rw [ih]
    exact stepG_idle (h t (by omega)) hg
theorem run_ok' {l : List Cd} (hp : pv l = true) {n P : Nat} (n8 : n ≤ 8) {sch : Nat → List Nat} (hs : SchOk n P sch) {c : Cw} (h : CwOk l n c) (hn : NrmC l c) : ∀ i, CwOk l n (runC l sch c i) ∧ NrmC l (runC l sch c i) ∧ (runC l sch c i).mem.length = c.mem.length
  | 0 => ⟨h, hn, rfl⟩
  | i + 1 => by
    obtain ⟨h1, h2, h3⟩ := run_ok' hp n8 hs h hn i
    obtain ⟨g1, g2, g3, g4⟩ := h1.stepG hp n8 (hs.nd i) (hs.lt i)
    exact ⟨g1, g2, by rw [← h3]; exact g4⟩
theorem run_ends {l : List Cd} (hp : pv l = true) {n P : Nat} (n8 : n ≤ 8) : ∀ (N : Nat) (sch : Nat → List Nat) (c : Cw), SchOk n P sch → CwOk l n c → NrmC l c → leftC l c ≤ N → ∃ T, T ≤ P * N ∧ overC l (runC l sch c T) = true
  | N, sch, c, hs, h, hn, hN => by
    rcases hn with hg | ⟨ho, -⟩
    · obtain ⟨k, hk, hgk⟩ := go_of h hg
      obtain ⟨j, -, hj, hkj⟩ := hs.cov k hk 0
      -- the first group in which a lane goes
      have hex : ∃ t, t < P ∧ amongL l c (sch t) ≠ [] ∧ ∀ i, i < t → amongL l c (sch i) = [] := by
        have : ∀ b, amongL l c (sch b) ≠ [] → ∃ t, t ≤ b ∧ amongL l c (sch t) ≠ [] ∧ ∀ i, i < t → amongL l c (sch i) = [] := by
          intro b
          induction b using Nat.strongRecOn with
          | ind b ih =>
            intro hb
            by_cases hall : ∀ i, i < b → amongL l c (sch i) = []
            · exact ⟨b, Nat.le_refl _, hb, hall⟩
            · have hall2 := Classical.not_forall.1 hall
              obtain ⟨i, hi⟩ := hall2
              have hi2 := Classical.not_imp.1 hi
              obtain ⟨t, h1, h2, h3⟩ := ih i hi2.1 hi2.2
              exact ⟨t, by omega, h2, h3⟩
        obtain ⟨t, h1, h2, h3⟩ := this j (among_some hkj hgk)
        exact ⟨t, by omega, h2, h3⟩
      obtain ⟨t, ht, hne, hidle⟩ := hex
      have e1 := idle_run (n := n) (P := P) hg t hidle
      obtain ⟨g1, g2, g3, -⟩ := h.stepG hp n8 (hs.nd t) (hs.lt t)
      have hpos : 1 ≤ (amongL l c (sch t)).length := List.length_pos_iff.2 hne
      have e2 : runC l sch c (t + 1) = stepG l c (sch t) := by
        show stepG l (runC l sch c t) (sch t) = _
        rw [e1]
      match N, hN with
      | 0, hN => omega
      | N + 1, hN =>
        obtain ⟨T, hT, ho⟩ := run_ends hp n8 N (fun i => sch (t + 1 + i)) (stepG l c (sch t)) (hs.shift (t + 1)) g1 g2 (by omega)
        refine ⟨t + 1 + T, by rw [Nat.mul_succ]; omega, ?_⟩
        rw [← e2, runC_shift] at ho
        exact ho
    · exact ⟨0, Nat.zero_le _, ho⟩


theorem retb {a b : Bool} (h : a = b) : Ending.returned (.bool a) = .returned (.bool b) := by rw [h]
theorem reti {a b : Int} (h : a = b) : Ending.returned (.int .i64 a) = .returned (.int .i64 b) := by rw [h]

theorem block_of_add (a : Addr) (n : Nat) : (a.add n).block = a.block := by unfold Addr.add; split <;> rfl
theorem add_of_add (a : Addr) (i j : Nat) : (a.add i).add j = a.add (i + j) := by
  unfold Addr.add
  by_cases hi : i = 0 <;> by_cases hj : j = 0 <;> simp [hi, hj, Nat.add_assoc]
theorem add_lit (b o i : Nat) : (⟨b, o, none⟩ : Addr).add i = ⟨b, o + i, none⟩ := by
  unfold Addr.add
  split <;> simp_all

/-- A slice of n elements (of 'size' cells each) at A reads as the cells xs, in a block below B. -/
def Reads (w : World) (B size : Nat) (A : Option Addr) (n : Nat) (xs : List Value) : Prop :=
  xs.length = n * size ∧ (0 < n → ∃ b off, A = some ⟨b, off, none⟩ ∧ b < B ∧ ∀ j u, xs[j]? = some u → w.cell? ⟨b, off + j, none⟩ = some u)

section
variable {w w' : World} {B B' size n : Nat} {A : Option Addr} {xs : List Value}
theorem Reads.none_ : Reads w B size A 0 [] := ⟨by simp, fun h => absurd h (by omega)⟩
theorem Reads.keep (h : Reads w B size A n xs) (hk : ∀ p : Addr, p.block < B → w'.cell? p = w.cell? p) : Reads w' B size A n xs :=
  ⟨h.1, fun hn => by
    obtain ⟨b, off, e, hb, hc⟩ := h.2 hn
    exact ⟨b, off, e, hb, fun j u hu => (hk _ hb).trans (hc j u hu)⟩⟩
theorem Reads.more (h : Reads w B size A n xs) (hB : B ≤ B') : Reads w B' size A n xs :=
  ⟨h.1, fun hn => by
    obtain ⟨b, off, e, hb, hc⟩ := h.2 hn
    exact ⟨b, off, e, by omega, hc⟩⟩
theorem Reads.below (h : Reads w B size A n xs) (hb : Below B w w') : Reads w' B size A n xs := h.keep fun _ hp => hb.cell hp
theorem Reads.of_own {base : Nat} {e : TypeId} {c : Nat} (h : w.ownsRow base e size (.slice A n c) n xs) : Reads w w.heap.size size A n xs := by
  refine ⟨h.1, fun hn => ?_⟩
  obtain ⟨g, cap, hv, _, hlt⟩ := h.form hn
  have hA : A = some ⟨g, 0, none⟩ := by injection hv
  subst hA
  exact ⟨g, 0, rfl, hlt, fun j u hu => by rw [← add_lit]; exact h.cells (g := g) rfl j u hu⟩
end

theorem cell_kept {w w1 : World} {a : Addr} {v : Value} (hb : Below w.heap.size w w1) (h : w.cell? a = some v) : w1.cell? a = some v := (hb.cell (World.block_lt_of_cell? w a h)).trans h
theorem below_trans {B : Nat} {w w1 w2 : World} (h : Below B w w1) (hB : B ≤ w.heap.size) (h2 : Below w1.heap.size w1 w2) : Below B w w2 := h.trans (h2.mono (Nat.le_trans hB h.size))

/-! ### Types' rows of the table -/
theorem infoInt : (Tryz.prog.info? 3).map (fun i => (i.zero, i.size, i.bytes)) = some (some (.int .i64 0), 1, 8) := by kernel_rfl
theorem infoCode : (Tryz.prog.info? 76).map (fun i => (i.zero, i.size, i.bytes)) = some (some (.agg #[.int .i64 0, .int .i64 0, .int .i64 0, .int .i64 0]), 4, 32) := by kernel_rfl

theorem run_make_rowN {P : Program} (t e : TypeId) (i : TypeInfo) (z : Value) (ht : P.underlying t = some (.slice e)) (hi : P.info? e = some i) (hz : i.zero = some z)
    (kl kc : IntKind) (n c : Nat) (hnc : n ≤ c) (hbytes : i.bytes * c ≤ 281474976710656) (h63 : c ≤ 9223372036854775807) (w : World) :
    (Instr.makeSlice t (.int kl (n : Int)) (.int kc (c : Int))).run P w = .ok (.slice (some ⟨w.heap.size, 0, none⟩) n c) (w.alloc (.cells (madeCells z.cells (c * i.size)) e)) := by
  have hb : (i.bytes : Int) * (c : Int) ≤ 281474976710656 := by
    have h : ((i.bytes * c : Nat) : Int) ≤ 281474976710656 := by omega
    rwa [Int.natCast_mul] at h
  have hr := run_make (P := P) w t e i z ht hi hz kl kc n c (by omega) (by omega) hb (by omega)
  simp only [Int.toNat_natCast] at hr
  exact hr

/-- What a new row of n elements holds. -/
def zeroRow (z : Value) (m : Nat) : Array Value := madeCells z.cells m
theorem zeroRow_size (z : Value) (m : Nat) : (zeroRow z m).size = m := size_madeCells _ _
theorem make_int (n : Nat) (hn : n ≤ 1000000000000) (w : World) :
    (Instr.makeSlice 24 (.int .i64 (n : Int)) (.int .i64 (n : Int))).run Tryz.prog w = .ok (.slice (some ⟨w.heap.size, 0, none⟩) n n) (w.alloc (.cells (zeroRow (.int .i64 0) n) 3)) := by
  obtain ⟨i0, hi, hz0, hz1, hz2⟩ := info_parts infoInt
  have := run_make_rowN (P := Tryz.prog) 24 3 i0 _ Tryz.underlying24 hi hz0 .i64 .i64 n n (Nat.le_refl _) (by rw [hz2]; omega) (by omega) w
  rw [hz1, Nat.mul_one] at this
  exact this

/-! ### Lists of instructions -/
def cdCells (x : Cd) : List Value := [.int .i64 x.op, .int .i64 x.a, .int .i64 x.b, .int .i64 x.c]
def cdsCells (l : List Cd) : List Value := l.flatMap cdCells
def Cd.val (x : Cd) : Value := .agg #[.int .i64 x.op, .int .i64 x.a, .int .i64 x.b, .int .i64 x.c]

theorem cdsCells_length (l : List Cd) : (cdsCells l).length = l.length * 4 := by
  induction l with
  | nil => rfl
  | cons x l ih => simp only [cdsCells, List.flatMap_cons, List.length_append, List.length_cons] at ih ⊢; rw [ih]; simp [cdCells]; omega

theorem cdsCells_get (l : List Cd) : ∀ (k : Nat) (x : Cd), l[k]? = some x → ∀ j, j < 4 → (cdsCells l)[k * 4 + j]? = (cdCells x)[j]? := by
  induction l with
  | nil => intro k x h; simp at h
  | cons y l ih =>
    intro k x h j hj
    cases k with
    | zero =>
      simp at h
      subst h
      simp only [cdsCells, List.flatMap_cons, Nat.zero_mul, Nat.zero_add]
      rw [List.getElem?_append_left (by simpa [cdCells] using hj)]
    | succ k =>
      simp only [List.getElem?_cons_succ] at h
      have := ih k x h j hj
      simp only [cdsCells, List.flatMap_cons]
      rw [List.getElem?_append_right (by simp [cdCells]; omega)]
      rw [← this]
      congr 1
      simp [cdCells]
      omega

theorem cdsCells_append (l m : List Cd) : cdsCells (l ++ m) = cdsCells l ++ cdsCells m := by simp [cdsCells]

/-- The slice at A reads as a program. -/
def RdC (w : World) (B : Nat) (A : Option Addr) (l : List Cd) : Prop := Reads w B 4 A l.length (cdsCells l)
/-- The slice at A reads as numbers. -/
def RdI (w : World) (B : Nat) (A : Option Addr) (l : List Int) : Prop := Reads w B 1 A l.length (l.map (.int .i64))

section
variable {w w' : World} {B B' : Nat} {A : Option Addr} {l : List Cd} {xs : List Int}
theorem RdC.below (h : RdC w B A l) (hb : Below B w w') : RdC w' B A l := Reads.below h hb
theorem RdC.more (h : RdC w B A l) (hB : B ≤ B') : RdC w B' A l := Reads.more h hB
theorem RdI.below (h : RdI w B A xs) (hb : Below B w w') : RdI w' B A xs := Reads.below h hb
theorem RdI.more (h : RdI w B A xs) (hB : B ≤ B') : RdI w B' A xs := Reads.more h hB
theorem RdC.at_ (h : RdC w B A l) {k : Nat} (hk : k < l.length) :
    ∃ b off x, A = some ⟨b, off, none⟩ ∧ b < B ∧ l[k]? = some x ∧
      w.cell? ⟨b, off + k * 4, none⟩ = some (.int .i64 x.op) ∧ w.cell? ⟨b, off + k * 4 + 1, none⟩ = some (.int .i64 x.a) ∧
      w.cell? ⟨b, off + k * 4 + 2, none⟩ = some (.int .i64 x.b) ∧ w.cell? ⟨b, off + k * 4 + 3, none⟩ = some (.int .i64 x.c) := by
  obtain ⟨b, off, e, hb, hc⟩ := h.2 (by omega)
  have hx : l[k]? = some l[k] := List.getElem?_eq_getElem hk
  have g := cdsCells_get l k _ hx
  exact ⟨b, off, l[k], e, hb, hx, hc (k * 4) _ (g 0 (by omega)), hc (k * 4 + 1) _ (g 1 (by omega)), hc (k * 4 + 2) _ (g 2 (by omega)), hc (k * 4 + 3) _ (g 3 (by omega))⟩
theorem RdI.at_ (h : RdI w B A xs) {k : Nat} (hk : k < xs.length) :
    ∃ b off x, A = some ⟨b, off, none⟩ ∧ b < B ∧ xs[k]? = some x ∧ w.cell? ⟨b, off + k, none⟩ = some (.int .i64 x) := by
  obtain ⟨b, off, e, hb, hc⟩ := h.2 (by omega)
  exact ⟨b, off, xs[k], e, hb, List.getElem?_eq_getElem hk, hc k _ (by simp [hk])⟩
end

/-! ### Rows of the call's own -/
def OR (w : World) (base : Nat) (e : TypeId) (size : Nat) (A : Option Addr) (n c : Nat) (xs : List Value) : Prop := w.ownsRow base e size (.slice A n c) n xs
def OI (w : World) (base : Nat) (A : Option Addr) (n c : Nat) (xs : List Int) : Prop := OR w base 3 1 A n c (xs.map (.int .i64))
def OC (w : World) (base : Nat) (A : Option Addr) (n c : Nat) (l : List Cd) : Prop := OR w base 76 4 A n c (cdsCells l)

section
variable {w w' : World} {base e size n c : Nat} {A : Option Addr} {xs : List Value}
theorem OR.nil_ (w : World) (base e size : Nat) : OR w base e size none 0 0 [] := World.ownsRow_nil _ _ _ _
theorem OR.len (h : OR w base e size A n c xs) : xs.length = n * size := h.1
theorem OR.slice_ {v : Value} (h : w.ownsRow base e size v n xs) : ∃ A c, v = .slice A n c ∧ OR w base e size A n c xs := by
  rcases h.2 with ⟨rfl, rfl⟩ | ⟨g, cap, cur, rfl, _⟩
  · exact ⟨none, 0, rfl, h⟩
  · exact ⟨_, _, rfl, h⟩
theorem OR.alloc (h : OR w base e size A n c xs) (o : Obj) : OR (w.alloc o) base e size A n c xs := World.ownsRow.alloc h o
theorem OR.drew (h : OR w base e size A n c xs) : OR w.drew base e size A n c xs := h
theorem OR.block (h : OR w base e size A n c xs) : ∀ k, Value.ownBlock (.slice A n c) = some k → base ≤ k ∧ k < w.heap.size := World.ownsRow.lt h
theorem OR.keep (h : OR w base e size A n c xs) (hk : ∀ k, k < w.heap.size → base ≤ k → w'.heap[k]? = w.heap[k]?) : OR w' base e size A n c xs := by
  refine ⟨h.1, ?_⟩
  rcases h.2 with hn | ⟨g, cap, cur, hv, hb, hg, r⟩
  · exact .inl hn
  · exact .inr ⟨g, cap, cur, hv, hb, by rw [hk g (Array.getElem?_eq_some_iff.1 hg).1 hb]; exact hg, r⟩
theorem OR.below {B : Nat} (h : OR w base e size A n c xs) (hb : Below B w w') (hB : w.heap.size ≤ B) : OR w' base e size A n c xs :=
  h.keep fun k hk _ => hb.block k (by omega)
theorem OR.kept {row : Option Nat} (h : OR w base e size A n c xs) (hg : w.grownBy w' row) (hne : Value.ownBlock (.slice A n c) = none ∨ Value.ownBlock (.slice A n c) ≠ row) : OR w' base e size A n c xs := World.ownsRow.kept h hg hne
theorem OR.reads (h : OR w base e size A n c xs) : Reads w w.heap.size size A n xs := Reads.of_own h
theorem OR.mono {base' : Nat} (h : OR w base e size A n c xs) (hb : base' ≤ base) : OR w base' e size A n c xs := by
  refine ⟨h.1, ?_⟩
  rcases h.2 with hn | ⟨g, cap, cur, hv, hbg, r⟩
  · exact .inl hn
  · exact .inr ⟨g, cap, cur, hv, by omega, r⟩
theorem OR.at_ (h : OR w base e size A n c xs) (hn : 0 < n) : ∃ g, A = some ⟨g, 0, none⟩ ∧ base ≤ g ∧ g < w.heap.size ∧
    (∀ j u, xs[j]? = some u → w.cell? ⟨g, j, none⟩ = some u) ∧ (∀ j, w.frozen? ⟨g, j, none⟩ = false) ∧
    (∀ j u, OR (w.setCell ⟨g, j, none⟩ u) base e size A n c (xs.set j u)) := by
  obtain ⟨g, cap, hv, hb, hlt⟩ := World.ownsRow.form h hn
  have hA : A = some ⟨g, 0, none⟩ := by injection hv
  subst hA
  refine ⟨g, rfl, hb, hlt, fun j u hu => ?_, fun j => World.ownsRow.frozenAt h j, fun j u => (World.ownsRow.stored h j u).1⟩
  have := World.ownsRow.cells h (g := g) rfl j u hu
  rwa [add_lit, Nat.zero_add] at this
theorem OR.at0 {g : Nat} (h : OR w base e size (some ⟨g, 0, none⟩) n c xs) :
    (∀ j u, xs[j]? = some u → w.cell? ⟨g, j, none⟩ = some u) ∧ (∀ j, w.frozen? ⟨g, j, none⟩ = false) ∧
    (∀ j u, OR (w.setCell ⟨g, j, none⟩ u) base e size (some ⟨g, 0, none⟩) n c (xs.set j u)) := by
  refine ⟨fun j u hu => ?_, fun j => World.ownsRow.frozenAt h j, fun j u => (World.ownsRow.stored h j u).1⟩
  have := World.ownsRow.cells h (g := g) rfl j u hu
  rwa [add_lit, Nat.zero_add] at this
theorem OR.some_cell {g : Nat} (h : OR w base e size (some ⟨g, 0, none⟩) n c xs) (j : Nat) (hj : j < n * size) : ∃ u, w.cell? ⟨g, j, none⟩ = some u :=
  ⟨_, (OR.at0 h).1 j (xs[j]'(by rw [h.1]; exact hj)) (List.getElem?_eq_getElem (by rw [h.1]; exact hj))⟩
theorem OR.base_le {g : Nat} (h : OR w base e size (some ⟨g, 0, none⟩) n c xs) : base ≤ g ∧ g < w.heap.size := OR.block h g rfl
theorem OR.take_ (h : OR w base e size A n c xs) {m : Nat} (hm : m ≤ n) : OR w base e size A m c (xs.take (m * size)) := by
  have hl : (xs.take (m * size)).length = m * size := by
    rw [List.length_take, h.1]
    exact Nat.min_eq_left (Nat.mul_le_mul_right _ hm)
  refine ⟨hl, ?_⟩
  rcases h.2 with ⟨hv, rfl⟩ | ⟨g, cap, cur, hv, hb, hg, hnc, hcm, hcs, ht⟩
  · injection hv with hA _ hc
    subst hA hc
    have : m = 0 := by omega
    subst this
    exact .inl ⟨rfl, rfl⟩
  · injection hv with hA _ hc
    subst hA hc
    refine .inr ⟨g, c, cur, rfl, hb, hg, by omega, hcm, hcs, ?_⟩
    rw [← ht, List.take_take, Nat.min_eq_left (Nat.mul_le_mul_right _ hm)]
theorem OR.lit (w : World) (base e size n : Nat) (cs : Array Value) (hb : base ≤ w.heap.size) (hm : n ≤ 1000000000000) (hs : cs.size = n * size) :
    OR (w.alloc (.cells cs e)) base e size (some ⟨w.heap.size, 0, none⟩) n n cs.toList := World.ownsRow_lit w cs n hb (by unfold maxLen; omega) hs
end

/-- The cells of a new row of one element lie at its block. -/
theorem one_row {w : World} {g : Nat} {cs : List Value} (hc : ∀ j u, cs[j]? = some u → w.cell? ⟨g, j, none⟩ = some u) : ∀ j u, cs[j]? = some u → w.cell? ((⟨g, 0, none⟩ : Addr).add j) = some u := by
  intro j u hu
  rw [add_lit, Nat.zero_add]
  exact hc j u hu

section
variable {w : World} {ops : Array Oper} {rest : List Oper} {o : Oper} {a : Act} {Q : Exit → Act → World → Prop}
/-- append of elements that lie in a row. -/
theorem app_row (t e : TypeId) (z : Value) (size bytes : Nat) (ht : Tryz.prog.underlying t = some (.slice e)) (hinfo : (Tryz.prog.info? e).map (fun i => (i.zero, i.size, i.bytes)) = some (some z, size, bytes)) (hzs : z.cells.size = size) (hsz : 0 < size) (hby : bytes ≤ 64)
    (hgd : o.guard = none) (s x : Operand) (ho : o.op = .call { callee := .builtin .append, args := #[s, x], argTypes := #[t, t] })
    (base : Nat) (A : Option Addr) (n c : Nat) (xs : List Value) (hown : OR w base e size A n c xs) (hs : a.eval s = .slice A n c)
    (g m cc : Nat) (news : List Value) (hx : a.eval x = .slice (some ⟨g, 0, none⟩) m cc) (hl : news.length = m * size) (hc : ∀ j u, news[j]? = some u → w.cell? ⟨g, j, none⟩ = some u)
    (h1 : ∀ u ∈ news, u.oneCell' = true) (hn : n + m ≤ 1000000000000) (hbase : base ≤ w.heap.size)
    (hK : ∀ A' c' w', OR w' base e size A' (n + m) c' (xs ++ news) → w.grownBy w' (Value.ownBlock (.slice A n c)) → wpList Tryz.prog ops Q rest (a.put o.dst (.slice A' (n + m) c')) w') :
    wpList Tryz.prog ops Q (o :: rest) a w := by
  obtain ⟨i0, hi, hz0, hz1, hz2⟩ := info_parts hinfo
  have hb : (n + m) * bytes ≤ 140737488355328 := Nat.le_trans (Nat.mul_le_mul_left _ hby) (by omega)
  refine wpList_append_own _ hgd s x t ho base e i0 z size bytes ht hi hz0 hz1 hz2 hzs hsz _ _ _ hs hown ⟨g, 0, none⟩ m cc news hx hl (one_row hc) h1 (by unfold maxLen; omega) hb hbase ?_
  intro v' w' hown' hgrow _
  obtain ⟨A', c', rfl, h'⟩ := OR.slice_ hown'
  exact hK A' c' w' h' hgrow

theorem app_int (hgd : o.guard = none) (s x : Operand) (ho : o.op = .call { callee := .builtin .append, args := #[s, x], argTypes := #[24, 24] })
    (base : Nat) (A : Option Addr) (n c : Nat) (xs : List Int) (hown : OI w base A n c xs) (hs : a.eval s = .slice A n c)
    (y : Int) (g cc : Nat) (hx : a.eval x = .slice (some ⟨g, 0, none⟩) 1 cc) (hc : w.cell? ⟨g, 0, none⟩ = some (.int .i64 y)) (hn : n < 1000000000000) (hbase : base ≤ w.heap.size)
    (hK : ∀ A' c' w', OI w' base A' (n + 1) c' (xs ++ [y]) → w.grownBy w' (Value.ownBlock (.slice A n c)) → wpList Tryz.prog ops Q rest (a.put o.dst (.slice A' (n + 1) c')) w') :
    wpList Tryz.prog ops Q (o :: rest) a w :=
  app_row 24 3 _ 1 8 Tryz.underlying24 infoInt rfl (by decide) (by decide) hgd s x ho base A n c _ hown hs g 1 cc [.int .i64 y] hx rfl
    (by
      intro j u hu
      match j, hu with
      | 0, hu => simp at hu; subst hu; exact hc)
    (by intro u hu; simp at hu; subst hu; rfl) (by omega) hbase
    (fun A' c' w' h hg => hK A' c' w' (by unfold OI; rw [List.map_append]; exact h) hg)
end

theorem within_c (x lo hi : Int) (w : World) :
    Calls Tryz.prog 54 #[.int .i64 x, .int .i64 lo, .int .i64 hi] w fun e w' => e = .returned (.bool (inR x lo hi)) ∧ w = w' := by
  by_cases h : lo ≤ x <;> by_cases h2 : x ≤ hi
  all_goals
    go_enter Tryz.func54, Tryz.ntmps54
    go_wp2
    go_ret
    exact ⟨by simp [inR, h, h2], rfl⟩

theorem l1In_c (x lo hi : Int) (w : World) :
    Calls Tryz.prog 33 #[.int .i64 x, .int .i64 lo, .int .i64 hi] w fun e w' => e = .returned (.bool (inR x lo hi)) ∧ w = w' := by
  by_cases h : lo ≤ x <;> by_cases h2 : x ≤ hi
  all_goals
    go_enter Tryz.func33, Tryz.ntmps33
    go_wp2
    go_ret
    exact ⟨by simp [inR, h, h2], rfl⟩

theorem isLanes_c (x : Int) (w : World) :
    Calls Tryz.prog 49 #[.int .i64 x] w fun e w' => e = .returned (.bool (inR x 1 8)) ∧ w = w' := by
  go_enter Tryz.func49, Tryz.ntmps49
  go_wp2_with (go_at_call 54; refine (within_c _ _ _ _).mono ?_; rintro e w' ⟨rfl, rfl⟩)
  go_ret
  exact ⟨rfl, rfl⟩

theorem isWord_c (x : Int) (w : World) :
    Calls Tryz.prog 86 #[.int .i64 x] w fun e w' => e = .returned (.bool (inR x 0 255)) ∧ w = w' := by
  go_enter Tryz.func86, Tryz.ntmps86
  go_wp2_with (go_at_call 54; refine (within_c _ _ _ _).mono ?_; rintro e w' ⟨rfl, rfl⟩)
  go_ret
  exact ⟨rfl, rfl⟩

theorem isReg_c (x : Int) (w : World) :
    Calls Tryz.prog 120 #[.int .i64 x] w fun e w' => e = .returned (.bool (inR x 0 3)) ∧ w = w' := by
  go_enter Tryz.func120, Tryz.ntmps120
  go_wp2_with (go_at_call 54; refine (within_c _ _ _ _).mono ?_; rintro e w' ⟨rfl, rfl⟩)
  go_ret
  exact ⟨rfl, rfl⟩

theorem l2Word_c (x : Int) (w : World) :
    Calls Tryz.prog 68 #[.int .i64 x] w fun e w' => e = .returned (.bool (inR x 0 255)) ∧ w = w' := by
  go_enter Tryz.func68, Tryz.ntmps68
  go_wp2_with (go_at_call 33; refine (l1In_c _ _ _ _).mono ?_; rintro e w' ⟨rfl, rfl⟩)
  go_ret
  exact ⟨rfl, rfl⟩

theorem registers_c (o : Int) (w : World) :
    Calls Tryz.prog 119 #[.int .i64 o] w fun e w' => e = .returned (.int .i64 (regsN o)) ∧ w = w' := by
  go_enter Tryz.func119, Tryz.ntmps119
  go_wp2
  all_goals go_ret
  all_goals refine ⟨reti ?_, rfl⟩
  all_goals (unfold regsN; simp_all)

theorem infoRows : (Tryz.prog.info? 24).map (fun i => (i.zero, i.size, i.bytes)) = some (some (.slice none 0 0), 1, 24) := by kernel_rfl

theorem infoBeat : (Tryz.prog.info? 78).map (fun i => (i.zero, i.size, i.bytes)) = some (some (.agg #[.int .i64 0, .int .i64 0]), 2, 16) := by kernel_rfl

theorem infoAcc : (Tryz.prog.info? 130).map (fun i => (i.zero, i.size, i.bytes)) = some (some (.agg #[.int .i64 0, .int .i64 0, .bool false, .int .i64 0]), 4, 32) := by kernel_rfl


theorem grown_set {w w1 : World} {g : Nat} (h : w.grownBy w1 (some g)) (j : Nat) (u : Value) : w.grownBy (w1.setCell ⟨g, j, none⟩ u) (some g) :=
  ⟨h.os, h.tape, h.output, by simpa [World.setCell] using h.size, fun k hk hne => (Below.heap_setCell w1 _ u k (fun e => hne (by subst e; rfl))).trans (h.block k hk hne)⟩
theorem grown_refl (w : World) (row : Option Nat) : w.grownBy w row := ⟨rfl, rfl, rfl, Nat.le_refl _, fun _ _ _ => rfl⟩

def intsEq : List Int → List Int → Bool
  | [], [] => true
  | x :: l, y :: m => x == y && intsEq l m
  | _, _ => false
theorem intsEq_len : ∀ (l m : List Int), l.length ≠ m.length → intsEq l m = false
  | [], [], h => absurd rfl h
  | [], _ :: _, _ => rfl
  | _ :: _, [], _ => rfl
  | x :: l, y :: m, h => by
    have := intsEq_len l m (by simpa using h)
    simp [intsEq, this]
theorem intsEq_refl : ∀ l : List Int, intsEq l l = true
  | [] => rfl
  | x :: l => by simp [intsEq, intsEq_refl l]
theorem intsEq_step {l m : List Int} {k : Nat} {x y : Int} (hx : l[k]? = some x) (hy : m[k]? = some y) : intsEq (l.drop k) (m.drop k) = (x == y && intsEq (l.drop (k + 1)) (m.drop (k + 1))) := by
  obtain ⟨h1, rfl⟩ := List.getElem?_eq_some_iff.1 hx
  obtain ⟨h2, rfl⟩ := List.getElem?_eq_some_iff.1 hy
  rw [List.drop_eq_getElem_cons h1, List.drop_eq_getElem_cons h2]
  rfl

end Go.Proofs.YtelbfeidpcojmaaGreat
