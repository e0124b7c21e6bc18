/- Programs as lists and as trees: plain Lean, no program in sight. -/
namespace Go.Proofs.Ytfpecplpammhiaa

/-- An instruction. -/
structure Cd where
  op : Int
  a : Int
  b : Int
  c : Int

def inR (x lo hi : Int) : Bool := decide (lo ≤ x) && decide (x ≤ hi)

theorem inR_iff {x lo hi : Int} : inR x lo hi = true ↔ lo ≤ x ∧ x ≤ hi := by simp [inR]
theorem inR_not {x lo hi : Int} : inR x lo hi = false ↔ x < lo ∨ hi < x := by simp [inR]; omega

/-- Whether an instruction is valid. -/
def cvOk (x : Cd) : Bool :=
  if x.op == 1 then inR x.a 0 3 && inR x.b 0 255 && x.c == 0
  else if x.op == 2 || x.op == 11 then inR x.a 0 3 && x.b == 0 && x.c == 0
  else if x.op == 3 || x.op == 4 || x.op == 5 || x.op == 8 || x.op == 9 then inR x.a 0 3 && inR x.b 0 3 && x.c == 0
  else if x.op == 6 || x.op == 7 then inR x.a 0 3 && inR x.b 0 3 && inR x.c 0 3
  else if x.op == 13 then inR x.a 0 3 && inR x.b 1 4 && x.c == 0
  else (x.op == 10 || x.op == 12 || x.op == 14) && x.a == 0 && x.b == 0 && x.c == 0

/-- The stack of the open blocks, the innermost one first: 11 for an if, 12 for one that is divided, 13 for a loop. -/
def pvStep (s : List Int) (x : Cd) : Option (List Int) :=
  if cvOk x then
    if x.op == 11 || x.op == 13 then (if s.length < 3 then some (x.op :: s) else none)
    else if x.op == 12 then (match s with | [] => none | m :: t => if m == 11 then some (12 :: t) else none)
    else if x.op == 14 then (match s with | [] => none | _ :: t => some t)
    else some s
  else none

def pvRun : List Int → List Cd → Option (List Int)
  | s, [] => some s
  | s, x :: l => match pvStep s x with
    | some t => pvRun t l
    | none => none

/-- Whether a program is valid. -/
def pv (l : List Cd) : Bool := decide (l.length ≤ 40) && (match pvRun [] l with | some [] => true | _ => false)

theorem pvRun_append (s : List Int) (l m : List Cd) : pvRun s (l ++ m) = match pvRun s l with
    | some t => pvRun t m
    | none => none := by
  induction l generalizing s with
  | nil => rfl
  | cons x l ih =>
    simp only [List.cons_append, pvRun]
    cases pvStep s x with
    | none => rfl
    | some t => exact ih t

theorem pv_iff {l : List Cd} : pv l = true ↔ l.length ≤ 40 ∧ pvRun [] l = some [] := by
  simp only [pv, Bool.and_eq_true, decide_eq_true_eq]
  constructor
  · rintro ⟨h, h2⟩
    refine ⟨h, ?_⟩
    split at h2
    · assumption
    · cases h2
  · rintro ⟨h, h2⟩
    exact ⟨h, by rw [h2]⟩

/-! ### Trees -/
inductive Blk where
  | nil
  | op (x : Cd) (r : Blk)
  | iff (a : Int) (t r : Blk)
  | ife (a : Int) (t e r : Blk)
  | loop (a b : Int) (t r : Blk)

def cIf (a : Int) : Cd := ⟨11, a, 0, 0⟩
def cElse : Cd := ⟨12, 0, 0, 0⟩
def cLoop (a b : Int) : Cd := ⟨13, a, b, 0⟩
def cEnd : Cd := ⟨14, 0, 0, 0⟩

def Blk.flat : Blk → List Cd
  | .nil => []
  | .op x r => x :: r.flat
  | .iff a t r => cIf a :: (t.flat ++ cEnd :: r.flat)
  | .ife a t e r => cIf a :: (t.flat ++ cElse :: (e.flat ++ cEnd :: r.flat))
  | .loop a b t r => cLoop a b :: (t.flat ++ cEnd :: r.flat)

/-- Well formed, with at most d nested blocks. -/
def Blk.ok : Nat → Blk → Prop
  | _, .nil => True
  | d, .op x r => cvOk x = true ∧ 1 ≤ x.op ∧ x.op ≤ 10 ∧ r.ok d
  | d, .iff a t r => (0 ≤ a ∧ a ≤ 3) ∧ 1 ≤ d ∧ t.ok (d - 1) ∧ r.ok d
  | d, .ife a t e r => (0 ≤ a ∧ a ≤ 3) ∧ 1 ≤ d ∧ t.ok (d - 1) ∧ e.ok (d - 1) ∧ r.ok d
  | d, .loop a b t r => (0 ≤ a ∧ a ≤ 3) ∧ (1 ≤ b ∧ b ≤ 4) ∧ 1 ≤ d ∧ t.ok (d - 1) ∧ r.ok d

theorem cvOk_if (a : Int) : cvOk (cIf a) = inR a 0 3 := by simp [cvOk, cIf]
theorem cvOk_else : cvOk cElse = true := by simp [cvOk, cElse]
theorem cvOk_end : cvOk cEnd = true := by simp [cvOk, cEnd]
theorem cvOk_loop (a b : Int) : cvOk (cLoop a b) = (inR a 0 3 && inR b 1 4) := by simp [cvOk, cLoop]

theorem cvOk_op {x : Cd} (h : cvOk x = true) : 1 ≤ x.op ∧ x.op ≤ 14 := by
  rcases x with ⟨o, a, b, c⟩
  by_cases h1 : 1 ≤ o ∧ o ≤ 14
  · exact h1
  · exfalso
    have e : ∀ k : Int, 1 ≤ k → k ≤ 14 → (o == k) = false := fun k a b => by rw [beq_eq_false_iff_ne]; omega
    simp [cvOk, e] at h

theorem eq_if {x : Cd} (h : cvOk x = true) (ho : x.op = 11) : x = cIf x.a ∧ 0 ≤ x.a ∧ x.a ≤ 3 := by
  rcases x with ⟨o, a, b, c⟩
  simp only at ho
  subst ho
  simp [cvOk, inR] at h
  obtain ⟨⟨h1, h2⟩, h3⟩ := h
  subst h2 h3
  exact ⟨rfl, h1⟩
theorem eq_else {x : Cd} (h : cvOk x = true) (ho : x.op = 12) : x = cElse := by
  rcases x with ⟨o, a, b, c⟩
  simp only at ho
  subst ho
  simp [cvOk] at h
  obtain ⟨⟨h1, h2⟩, h3⟩ := h
  subst h1 h2 h3
  rfl
theorem eq_end {x : Cd} (h : cvOk x = true) (ho : x.op = 14) : x = cEnd := by
  rcases x with ⟨o, a, b, c⟩
  simp only at ho
  subst ho
  simp [cvOk] at h
  obtain ⟨⟨h1, h2⟩, h3⟩ := h
  subst h1 h2 h3
  rfl
theorem eq_loop {x : Cd} (h : cvOk x = true) (ho : x.op = 13) : x = cLoop x.a x.b ∧ (0 ≤ x.a ∧ x.a ≤ 3) ∧ 1 ≤ x.b ∧ x.b ≤ 4 := by
  rcases x with ⟨o, a, b, c⟩
  simp only at ho
  subst ho
  simp [cvOk, inR] at h
  obtain ⟨⟨h1, h2⟩, h3⟩ := h
  subst h3
  exact ⟨rfl, h1, h2⟩

/-- A tree runs through the stack. -/
theorem pvRun_flat (b : Blk) : ∀ (s : List Int) (d : Nat), b.ok d → s.length + d ≤ 3 → pvRun s b.flat = some s := by
  induction b with
  | nil => intros; rfl
  | op x r ih =>
    intro s d ⟨hx, h1, h2, hr⟩ hd
    have e : ∀ k : Int, 11 ≤ k → (x.op == k) = false := fun k a => by rw [beq_eq_false_iff_ne]; omega
    simp only [Blk.flat, pvRun, pvStep, hx, if_true]
    simp [e, ih s d hr hd]
  | iff a t r iht ihr =>
    intro s d ⟨ha, hd1, ht, hr⟩ hd
    have hv : cvOk (cIf a) = true := by rw [cvOk_if, inR_iff]; exact ha
    have hs : s.length < 3 := by omega
    have h1 : pvStep s (cIf a) = some (11 :: s) := by simp [pvStep, hv, hs]; rfl
    have h2 : pvStep (11 :: s) cEnd = some s := by simp [pvStep, cEnd, cvOk]
    simp only [Blk.flat, pvRun, h1, pvRun_append, iht (11 :: s) (d - 1) ht (by simp; omega), h2]
    exact ihr s d hr hd
  | ife a t e r iht ihe ihr =>
    intro s d ⟨ha, hd1, ht, he, hr⟩ hd
    have hv : cvOk (cIf a) = true := by rw [cvOk_if, inR_iff]; exact ha
    have hs : s.length < 3 := by omega
    have h1 : pvStep s (cIf a) = some (11 :: s) := by simp [pvStep, hv, hs]; rfl
    have h2 : pvStep (11 :: s) cElse = some (12 :: s) := by simp [pvStep, cElse, cvOk]
    have h3 : pvStep (12 :: s) cEnd = some s := by simp [pvStep, cEnd, cvOk]
    simp only [Blk.flat, pvRun, h1, pvRun_append, iht (11 :: s) (d - 1) ht (by simp; omega), h2, ihe (12 :: s) (d - 1) he (by simp; omega), h3]
    exact ihr s d hr hd
  | loop a c t r iht ihr =>
    intro s d ⟨ha, hc, hd1, ht, hr⟩ hd
    have hv : cvOk (cLoop a c) = true := by rw [cvOk_loop, Bool.and_eq_true, inR_iff, inR_iff]; exact ⟨ha, hc⟩
    have hs : s.length < 3 := by omega
    have h1 : pvStep s (cLoop a c) = some (13 :: s) := by simp [pvStep, hv, hs]; rfl
    have h2 : pvStep (13 :: s) cEnd = some s := by simp [pvStep, cEnd, cvOk]
    simp only [Blk.flat, pvRun, h1, pvRun_append, iht (13 :: s) (d - 1) ht (by simp; omega), h2]
    exact ihr s d hr hd

/-- What is left behind a tree: nothing, an end, or an else of an if that is not divided. -/
theorem parse_aux : ∀ (n : Nat) (l : List Cd) (s : List Int), l.length ≤ n → s.length ≤ 3 → pvRun s l = some [] →
    ∃ b : Blk, b.ok (3 - s.length) ∧
      ((s = [] ∧ l = b.flat) ∨
       (∃ m t r, s = m :: t ∧ l = b.flat ++ cEnd :: r ∧ pvRun t r = some []) ∨
       (∃ t r, s = 11 :: t ∧ l = b.flat ++ cElse :: r ∧ pvRun (12 :: t) r = some []))
  | 0, l, s, hn, hs3, h => by
    have : l = [] := List.eq_nil_of_length_eq_zero (by omega)
    subst this
    simp [pvRun] at h
    exact ⟨.nil, trivial, .inl ⟨h, rfl⟩⟩
  | n + 1, [], s, hn, hs3, h => by
    simp [pvRun] at h
    exact ⟨.nil, trivial, .inl ⟨h, rfl⟩⟩
  | n + 1, x :: l, s, hn, hs3, h => by
    simp only [List.length_cons] at hn
    simp only [pvRun] at h
    by_cases hv : cvOk x = true
    · have ho := cvOk_op hv
      by_cases e14 : x.op = 14
      · have hx := eq_end hv e14
        subst hx
        cases s with
        | nil => simp [pvStep, cEnd, cvOk] at h
        | cons m t =>
          simp [pvStep, cEnd, cvOk] at h
          exact ⟨.nil, trivial, .inr (.inl ⟨m, t, l, rfl, rfl, h⟩)⟩
      · by_cases e12 : x.op = 12
        · have hx := eq_else hv e12
          subst hx
          cases s with
          | nil => simp [pvStep, cElse, cvOk] at h
          | cons m t =>
            by_cases hm : m = 11
            · subst hm
              simp [pvStep, cElse, cvOk] at h
              exact ⟨.nil, trivial, .inr (.inr ⟨t, l, rfl, rfl, h⟩)⟩
            · simp [pvStep, cElse, cvOk, hm] at h
        · by_cases e11 : x.op = 11
          · obtain ⟨hx, ha⟩ := eq_if hv e11
            have hs : s.length < 3 := by
              refine Nat.lt_of_not_le fun hge => ?_
              simp [pvStep, hv, e11, Nat.not_lt.2 hge] at h
            have h' : pvRun (11 :: s) l = some [] := by simpa [pvStep, hv, e11, hs] using h
            obtain ⟨t, hto, hcase⟩ := parse_aux n l (11 :: s) (by omega) (by simp; omega) h'
            rcases hcase with ⟨h0, _⟩ | ⟨m, s', r, hs', hl, hr⟩ | ⟨s', r, hs', hl, hr⟩
            · cases h0
            · injection hs' with e1 e2
              subst e2
              have hlen : r.length ≤ n := by have := congrArg List.length hl; simp at this; omega
              obtain ⟨b, hbo, hb⟩ := parse_aux n r s hlen hs3 hr
              refine ⟨.iff x.a t b, ⟨ha, by omega, by simpa [Nat.sub_sub] using hto, hbo⟩, ?_⟩
              rw [hx, hl]
              rcases hb with ⟨q0, q1⟩ | ⟨m', t', r', q0, q1, q2⟩ | ⟨t', r', q0, q1, q2⟩
              · exact .inl ⟨q0, by rw [q1]; simp [Blk.flat, cIf]⟩
              · exact .inr (.inl ⟨m', t', r', q0, by rw [q1]; simp [Blk.flat, cIf], q2⟩)
              · exact .inr (.inr ⟨t', r', q0, by rw [q1]; simp [Blk.flat, cIf], q2⟩)
            · injection hs' with e1 e2
              subst e2
              have hlen : r.length ≤ n := by have := congrArg List.length hl; simp at this; omega
              obtain ⟨e, heo, he⟩ := parse_aux n r (12 :: s) hlen (by simp; omega) hr
              rcases he with ⟨h0, _⟩ | ⟨m, s'', r2, hs'', hl2, hr2⟩ | ⟨s'', r2, hs'', _, _⟩
              · cases h0
              · injection hs'' with e1 e2
                subst e2
                have hlen2 : r2.length ≤ n := by have := congrArg List.length hl2; simp at this; omega
                obtain ⟨b, hbo, hb⟩ := parse_aux n r2 s hlen2 hs3 hr2
                refine ⟨.ife x.a t e b, ⟨ha, by omega, by simpa [Nat.sub_sub] using hto, by simpa [Nat.sub_sub] using heo, hbo⟩, ?_⟩
                rw [hx, hl, hl2]
                rcases hb with ⟨q0, q1⟩ | ⟨m', t', r', q0, q1, q2⟩ | ⟨t', r', q0, q1, q2⟩
                · exact .inl ⟨q0, by rw [q1]; simp [Blk.flat, cIf]⟩
                · exact .inr (.inl ⟨m', t', r', q0, by rw [q1]; simp [Blk.flat, cIf], q2⟩)
                · exact .inr (.inr ⟨t', r', q0, by rw [q1]; simp [Blk.flat, cIf], q2⟩)
              · injection hs'' with e1 e2
                exact absurd e1 (by decide)
          · by_cases e13 : x.op = 13
            · obtain ⟨hx, ha, hc⟩ := eq_loop hv e13
              have hs : s.length < 3 := by
                refine Nat.lt_of_not_le fun hge => ?_
                simp [pvStep, hv, e13, Nat.not_lt.2 hge] at h
              have h' : pvRun (13 :: s) l = some [] := by simpa [pvStep, hv, e13, hs] using h
              obtain ⟨t, hto, hcase⟩ := parse_aux n l (13 :: s) (by omega) (by simp; omega) h'
              rcases hcase with ⟨h0, _⟩ | ⟨m, s', r, hs', hl, hr⟩ | ⟨s', r, hs', _, _⟩
              · cases h0
              · injection hs' with e1 e2
                subst e2
                have hlen : r.length ≤ n := by have := congrArg List.length hl; simp at this; omega
                obtain ⟨b, hbo, hb⟩ := parse_aux n r s hlen hs3 hr
                refine ⟨.loop x.a x.b t b, ⟨ha, hc, by omega, by simpa [Nat.sub_sub] using hto, hbo⟩, ?_⟩
                rw [hx, hl]
                rcases hb with ⟨q0, q1⟩ | ⟨m', t', r', q0, q1, q2⟩ | ⟨t', r', q0, q1, q2⟩
                · exact .inl ⟨q0, by rw [q1]; simp [Blk.flat, cLoop]⟩
                · exact .inr (.inl ⟨m', t', r', q0, by rw [q1]; simp [Blk.flat, cLoop], q2⟩)
                · exact .inr (.inr ⟨t', r', q0, by rw [q1]; simp [Blk.flat, cLoop], q2⟩)
              · injection hs' with e1 e2
                exact absurd e1 (by decide)
            · have h' : pvRun s l = some [] := by simpa [pvStep, hv, e11, e12, e13, e14] using h
              obtain ⟨b, hbo, hb⟩ := parse_aux n l s (by omega) hs3 h'
              refine ⟨.op x b, ⟨hv, ho.1, by omega, hbo⟩, ?_⟩
              rcases hb with ⟨q0, q1⟩ | ⟨m', t', r', q0, q1, q2⟩ | ⟨t', r', q0, q1, q2⟩
              · exact .inl ⟨q0, by rw [q1]; simp [Blk.flat]⟩
              · exact .inr (.inl ⟨m', t', r', q0, by rw [q1]; simp [Blk.flat], q2⟩)
              · exact .inr (.inr ⟨t', r', q0, by rw [q1]; simp [Blk.flat], q2⟩)
    · simp [pvStep, hv] at h

/-- A program is valid exactly if it is a tree with at most 3 nested blocks and 40 instructions. -/
theorem pv_tree {l : List Cd} : pv l = true ↔ l.length ≤ 40 ∧ ∃ b : Blk, b.ok 3 ∧ b.flat = l := by
  rw [pv_iff]
  constructor
  · rintro ⟨h, h2⟩
    obtain ⟨b, hb, hc⟩ := parse_aux l.length l [] (Nat.le_refl _) (by simp) h2
    refine ⟨h, b, hb, ?_⟩
    rcases hc with ⟨_, e⟩ | ⟨m, t, r, e, _⟩ | ⟨t, r, e, _⟩
    · exact e.symm
    · cases e
    · cases e
  · rintro ⟨h, b, hb, rfl⟩
    exact ⟨h, pvRun_flat b [] 3 hb (by simp)⟩
end Go.Proofs.Ytfpecplpammhiaa
