/- Reads, writes, picks, names of registers: plain Lean, no program in sight. -/
import Derived.Test.YtfpecplpammhiaaPlaces
namespace Go.Proofs.Ytfpecplpammhiaa

/-- The number of the registers among A, B and C. -/
def regsN (op : Int) : Int :=
  if op == 1 || op == 2 || op == 11 || op == 13 then 1
  else if op == 3 || op == 4 || op == 5 || op == 8 || op == 9 then 2
  else if op == 6 || op == 7 then 3
  else 0

/-- The set of the registers that an instruction reads. -/
def reads (x : Cd) : Nat :=
  if cvOk x then
    if x.op == 5 || x.op == 8 then 2 ^ x.b.toNat
    else if x.op == 3 || x.op == 4 || x.op == 9 then 2 ^ x.a.toNat ||| 2 ^ x.b.toNat
    else if x.op == 6 then 2 ^ x.b.toNat ||| 2 ^ x.c.toNat
    else if x.op == 7 then 2 ^ x.a.toNat ||| 2 ^ x.b.toNat ||| 2 ^ x.c.toNat
    else if x.op == 11 || x.op == 13 then 2 ^ x.a.toNat
    else 0
  else 0

/-- The register that an instruction writes, or -1. -/
def wreg (x : Cd) : Int := if cvOk x && inR x.op 1 8 then x.a else -1

/-- The set of the register that an instruction writes. -/
def wset (x : Cd) : Nat := if cvOk x && inR x.op 1 8 then 2 ^ x.a.toNat else 0

/-- The seven forms of a valid instruction. -/
theorem cvOk_forms {x : Cd} (h : cvOk x = true) :
    (x.op = 1 ∧ (0 ≤ x.a ∧ x.a ≤ 3) ∧ (0 ≤ x.b ∧ x.b ≤ 255) ∧ x.c = 0) ∨
    ((x.op = 2 ∨ x.op = 11) ∧ (0 ≤ x.a ∧ x.a ≤ 3) ∧ x.b = 0 ∧ x.c = 0) ∨
    ((x.op = 3 ∨ x.op = 4 ∨ x.op = 5 ∨ x.op = 8 ∨ x.op = 9) ∧ (0 ≤ x.a ∧ x.a ≤ 3) ∧ (0 ≤ x.b ∧ x.b ≤ 3) ∧ x.c = 0) ∨
    ((x.op = 6 ∨ x.op = 7) ∧ (0 ≤ x.a ∧ x.a ≤ 3) ∧ (0 ≤ x.b ∧ x.b ≤ 3) ∧ (0 ≤ x.c ∧ x.c ≤ 3)) ∨
    (x.op = 13 ∧ (0 ≤ x.a ∧ x.a ≤ 3) ∧ (1 ≤ x.b ∧ x.b ≤ 4) ∧ x.c = 0) ∨
    ((x.op = 10 ∨ x.op = 12 ∨ x.op = 14) ∧ x.a = 0 ∧ x.b = 0 ∧ x.c = 0) := by
  rcases x with ⟨o, a, b, c⟩
  simp only [cvOk, inR] at h
  dsimp only
  split at h
  · simp at h ‹(_ == _) = true›; omega
  split at h
  · simp at h ‹(_ || _) = true›; omega
  split at h
  · simp at h ‹(_ || _) = true›; omega
  split at h
  · simp at h ‹(_ || _) = true›; omega
  split at h
  · simp at h ‹(_ == _) = true›; omega
  · simp at h; omega

theorem cvOk_a {x : Cd} (h : cvOk x = true) : 0 ≤ x.a ∧ x.a ≤ 3 := by
  rcases cvOk_forms h with h | h | h | h | h | h <;> omega
theorem cvOk_b {x : Cd} (h : cvOk x = true) : 0 ≤ x.b ∧ x.b ≤ 255 := by
  rcases cvOk_forms h with h | h | h | h | h | h <;> omega
theorem cvOk_c {x : Cd} (h : cvOk x = true) : 0 ≤ x.c ∧ x.c ≤ 3 := by
  rcases cvOk_forms h with h | h | h | h | h | h <;> omega
theorem cvOk_b2 {x : Cd} (h : cvOk x = true) (hr : x.op = 3 ∨ x.op = 4 ∨ x.op = 5 ∨ x.op = 6 ∨ x.op = 7 ∨ x.op = 8 ∨ x.op = 9) : 0 ≤ x.b ∧ x.b ≤ 3 := by
  rcases cvOk_forms h with h | h | h | h | h | h <;> omega

theorem pow4 {a : Int} (h : 0 ≤ a ∧ a ≤ 3) : a = 0 ∨ a = 1 ∨ a = 2 ∨ a = 3 := by omega

theorem reads_lt (x : Cd) : reads x < 16 := by
  unfold reads
  split
  · rename_i h
    have p : ∀ n : Int, 0 ≤ n ∧ n ≤ 3 → 2 ^ n.toNat < 2 ^ 4 := fun n hn => Nat.pow_lt_pow_right (by decide) (by omega)
    have q : ∀ m n : Nat, m < 2 ^ 4 → n < 2 ^ 4 → m ||| n < 2 ^ 4 := fun m n hm hn => Nat.or_lt_two_pow hm hn
    have ha := p _ (cvOk_a h)
    have hb := fun hr => p _ (cvOk_b2 h hr)
    have hc := p _ (cvOk_c h)
    split
    · rename_i h2; simp at h2; exact hb (by omega)
    split
    · rename_i h2; simp at h2; exact q _ _ ha (hb (by omega))
    split
    · rename_i h2; simp at h2; exact q _ _ (hb (by omega)) hc
    split
    · rename_i h2; simp at h2; exact q _ _ (q _ _ ha (hb (by omega))) hc
    split
    · exact ha
    · decide
  · decide

theorem wset_lt (x : Cd) : wset x < 16 := by
  unfold wset
  split
  · rename_i h
    simp only [Bool.and_eq_true] at h
    have ha := cvOk_a h.1
    exact Nat.pow_lt_pow_right (a := 2) (n := 4) (by decide) (by omega)
  · decide

/-! ### Picks -/
def opAt (l : List Cd) (k : Nat) : Int := match l[k]? with | some x => x.op | none => 0

/-- An if, a move and its end begin at place k. -/
def pickB (l : List Cd) (k : Nat) : Bool := opAt l k == 11 && opAt l (k + 1) == 5 && opAt l (k + 2) == 14

def picksFrom (l : List Cd) : Nat → List Nat
  | 0 => []
  | n + 1 => picksFrom l n ++ (if pickB l n then [n] else [])

/-- All places below n at which picks can be used. -/
theorem picksFrom_succ (l : List Cd) (n : Nat) : picksFrom l (n + 1) = picksFrom l n ++ (if pickB l n then [n] else []) := rfl

theorem mem_picksFrom {l : List Cd} {n k : Nat} : k ∈ picksFrom l n ↔ k < n ∧ pickB l k = true := by
  induction n with
  | zero => simp [picksFrom]
  | succ n ih =>
    rw [picksFrom_succ, List.mem_append, ih]
    constructor
    · rintro (h | h)
      · exact ⟨by omega, h.2⟩
      · split at h
        · simp at h; subst h; exact ⟨by omega, by assumption⟩
        · simp at h
    · rintro ⟨h1, h2⟩
      by_cases e : k = n
      · subst e; right; simp [h2]
      · left; exact ⟨by omega, h2⟩

/-- What is made of a program with n places left to look at. -/
def picked : List Cd → List Cd
  | x :: y :: z :: r => if x.op == 11 && y.op == 5 && z.op == 14 then ⟨7, y.a, y.b, x.a⟩ :: picked r else x :: picked (y :: z :: r)
  | x :: r => x :: picked r
  | [] => []

theorem pickB_drop {l : List Cd} {k : Nat} {x y z : Cd} {r : List Cd} (h : l.drop k = x :: y :: z :: r) : pickB l k = (x.op == 11 && y.op == 5 && z.op == 14) := by
  have g : ∀ j, l[k + j]? = (x :: y :: z :: r)[j]? := fun j => by rw [← h, List.getElem?_drop]
  have g0 := g 0; have g1 := g 1; have g2 := g 2
  simp at g0 g1 g2
  simp [pickB, opAt, g0, g1, g2]

theorem pickB_true {l : List Cd} {k : Nat} (h : pickB l k = true) : ∃ x y z r, l.drop k = x :: y :: z :: r ∧ x.op = 11 ∧ y.op = 5 ∧ z.op = 14 ∧ k + 2 < l.length := by
  simp only [pickB, Bool.and_eq_true, beq_iff_eq] at h
  obtain ⟨⟨h1, h2⟩, h3⟩ := h
  have hk : k + 2 < l.length := by
    refine Nat.lt_of_not_le fun hge => ?_
    rw [opAt, List.getElem?_eq_none hge] at h3
    simp at h3
  refine ⟨l[k], l[k + 1], l[k + 2], l.drop (k + 3), ?_, ?_, ?_, ?_, hk⟩
  · rw [List.drop_eq_getElem_cons (by omega), List.drop_eq_getElem_cons (by omega), List.drop_eq_getElem_cons (by omega)]
  · simpa [opAt, List.getElem?_eq_getElem (show k < l.length by omega)] using h1
  · simpa [opAt, List.getElem?_eq_getElem (show k + 1 < l.length by omega)] using h2
  · simpa [opAt, List.getElem?_eq_getElem hk] using h3

theorem picked_yes {l : List Cd} {k : Nat} (h : pickB l k = true) (d : Cd) :
    picked (l.drop k) = ⟨7, (l.getD (k + 1) d).a, (l.getD (k + 1) d).b, (l.getD k d).a⟩ :: picked (l.drop (k + 3)) := by
  obtain ⟨x, y, z, r, e, h1, h2, h3, hk⟩ := pickB_true h
  have g : ∀ j, l[k + j]? = (x :: y :: z :: r)[j]? := fun j => by rw [← e, List.getElem?_drop]
  have g0 := g 0; have g1 := g 1
  simp at g0 g1
  have er : l.drop (k + 3) = r := by rw [← List.drop_drop, e]; rfl
  rw [e, er]
  simp [picked, h1, h2, h3, List.getD_eq_getElem?_getD, g0, g1]

theorem picked_no {l : List Cd} {k : Nat} (h : pickB l k = false) (hk : k < l.length) (d : Cd) : picked (l.drop k) = l.getD k d :: picked (l.drop (k + 1)) := by
  have e0 : l.drop k = l[k] :: l.drop (k + 1) := List.drop_eq_getElem_cons hk
  have hd : l.getD k d = l[k] := by simp [List.getD_eq_getElem?_getD, hk]
  rw [hd]
  match e1 : l.drop (k + 1) with
  | [] => rw [e0, e1]; rfl
  | [y] => rw [e0, e1]; rfl
  | y :: z :: r =>
    rw [e0, e1]
    have := pickB_drop (by rw [e0, e1])
    rw [h] at this
    rw [picked, ← this]
    simp

/-! ### Names -/
def ren (f : Int → Int) (x : Cd) : Cd :=
  if regsN x.op == 1 then { x with a := f x.a }
  else if regsN x.op == 2 then { x with a := f x.a, b := f x.b }
  else if regsN x.op == 3 then { x with a := f x.a, b := f x.b, c := f x.c }
  else x

def usedOf (l : List Cd) : Nat := l.foldl (fun s x => s ||| (reads x ||| wset x)) 0

theorem usedOf_lt (l : List Cd) : usedOf l < 16 := by
  unfold usedOf
  have : ∀ (m : List Cd) (s : Nat), s < 16 → m.foldl (fun s x => s ||| (reads x ||| wset x)) s < 16 := by
    intro m
    induction m with
    | nil => intro s h; exact h
    | cons x m ih =>
      intro s h
      exact ih _ (Nat.or_lt_two_pow (n := 4) h (Nat.or_lt_two_pow (n := 4) (reads_lt x) (wset_lt x)))
  exact this l 0 (by decide)
end Go.Proofs.Ytfpecplpammhiaa
