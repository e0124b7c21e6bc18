/- Places of the ends of blocks, on lists and on trees: plain Lean, no program in sight. -/
import Derived.Test.YtfpecplpammhiaaSyn
namespace Go.Proofs.Ytfpecplpammhiaa

theorem Cd.ext {x y : Cd} (h1 : x.op = y.op) (h2 : x.a = y.a) (h3 : x.b = y.b) (h4 : x.c = y.c) : x = y := by
  cases x; cases y; simp_all

def opB (x : Cd) : Bool := x.op == 11 || x.op == 13

/-- From place k on, with d open blocks: the place of the end, and of the else (or what was known of it). -/
def scanE : List Cd → Nat → Nat → Int → Int × Int
  | [], _, _, o => (-1, o)
  | x :: r, k, d, o =>
    if opB x then scanE r (k + 1) (d + 1) o
    else if x.op == 12 && d == 0 then scanE r (k + 1) d k
    else if x.op == 14 && d == 0 then (k, o)
    else if x.op == 14 then scanE r (k + 1) (d - 1) o
    else scanE r (k + 1) d o

/-- The end and the else of the block that is opened at place k. -/
def endOf (l : List Cd) (k : Nat) : Int × Int := scanE (l.drop (k + 1)) (k + 1) 0 (-1)

/-- Back from place n (not included), with d closed blocks: the place of the opening. -/
def scanA (l : List Cd) : Nat → Nat → Int
  | 0, _ => -1
  | n + 1, d =>
    match l[n]? with
    | none => -1
    | some x =>
      if opB x then (match d with | 0 => (n : Int) | d + 1 => scanA l n d)
      else if x.op == 14 then scanA l n (d + 1) else scanA l n d

/-- The place of the opening of the innermost block around place k. -/
def aroundOf (l : List Cd) (k : Nat) : Int := scanA l k 0

theorem opB_if (a : Int) : opB (cIf a) = true := rfl
theorem opB_loop (a b : Int) : opB (cLoop a b) = true := rfl
theorem opB_else : opB cElse = false := rfl
theorem opB_end : opB cEnd = false := rfl

theorem scanE_cons_open {x : Cd} (h : opB x = true) (r : List Cd) (k d : Nat) (o : Int) : scanE (x :: r) k d o = scanE r (k + 1) (d + 1) o := by
  simp [scanE, h]
theorem scanE_else (r : List Cd) (k d : Nat) (o : Int) : scanE (cElse :: r) k d o = scanE r (k + 1) d (if d = 0 then (k : Int) else o) := by
  cases d <;> simp [scanE, cElse, opB]
theorem scanE_end0 (r : List Cd) (k : Nat) (o : Int) : scanE (cEnd :: r) k 0 o = ((k : Int), o) := by
  simp [scanE, cEnd, opB]
theorem scanE_end (r : List Cd) (k d : Nat) (o : Int) : scanE (cEnd :: r) k (d + 1) o = scanE r (k + 1) d o := by
  simp [scanE, cEnd, opB]
theorem scanE_op {x : Cd} (h : x.op ≤ 10) (r : List Cd) (k d : Nat) (o : Int) : scanE (x :: r) k d o = scanE r (k + 1) d o := by
  have e : ∀ j : Int, 11 ≤ j → (x.op == j) = false := fun j a => by rw [beq_eq_false_iff_ne]; omega
  simp [scanE, opB, e]

/-- A whole tree is passed over. -/
theorem scanE_flat (b : Blk) : ∀ (n : Nat) (rest : List Cd) (k d : Nat) (o : Int), b.ok n → scanE (b.flat ++ rest) k d o = scanE rest (k + b.flat.length) d o := by
  induction b with
  | nil => intros; rfl
  | op x r ih =>
    intro n rest k d o ⟨_, _, h2, hr⟩
    simp only [Blk.flat, List.cons_append, scanE_op h2, List.length_cons]
    rw [ih n rest _ _ _ hr]
    congr 1; omega
  | iff a t r iht ihr =>
    intro n rest k d o ⟨_, _, ht, hr⟩
    simp only [Blk.flat, List.cons_append, List.append_assoc]
    rw [scanE_cons_open (opB_if a), iht _ _ _ _ _ ht, scanE_end, ihr _ _ _ _ _ hr]
    congr 1; simp; omega
  | ife a t e r iht ihe ihr =>
    intro n rest k d o ⟨_, _, ht, he, hr⟩
    simp only [Blk.flat, List.cons_append, List.append_assoc]
    rw [scanE_cons_open (opB_if a), iht _ _ _ _ _ ht, scanE_else, ihe _ _ _ _ _ he, scanE_end, ihr _ _ _ _ _ hr]
    simp
    congr 1; omega
  | loop a c t r iht ihr =>
    intro n rest k d o ⟨_, _, _, ht, hr⟩
    simp only [Blk.flat, List.cons_append, List.append_assoc]
    rw [scanE_cons_open (opB_loop a c), iht _ _ _ _ _ ht, scanE_end, ihr _ _ _ _ _ hr]
    congr 1; simp; omega

theorem drop_pre {α : Type} (pre : List α) (x : α) (r : List α) : (pre ++ x :: r).drop (pre.length + 1) = r := by
  rw [List.drop_append]; simp

theorem endOf_block {n : Nat} {t : Blk} (ht : t.ok n) (pre r : List Cd) (x : Cd) :
    endOf (pre ++ x :: (t.flat ++ cEnd :: r)) pre.length = (((pre.length + 1 + t.flat.length : Nat) : Int), -1) := by
  unfold endOf
  rw [drop_pre, scanE_flat t n _ _ _ _ ht, scanE_end0]

theorem endOf_else {n : Nat} {t e : Blk} (ht : t.ok n) (he : e.ok n) (pre r : List Cd) (x : Cd) :
    endOf (pre ++ x :: (t.flat ++ cElse :: (e.flat ++ cEnd :: r))) pre.length =
      (((pre.length + 1 + t.flat.length + 1 + e.flat.length : Nat) : Int), ((pre.length + 1 + t.flat.length : Nat) : Int)) := by
  unfold endOf
  rw [drop_pre, scanE_flat t n _ _ _ _ ht, scanE_else, scanE_flat e n _ _ _ _ he, scanE_end0]
  simp

theorem get_pre {α : Type} (pre : List α) (x : α) (r : List α) : (pre ++ x :: r)[pre.length]? = some x := by simp

theorem scanA_step (l : List Cd) (n d : Nat) (x : Cd) (h : l[n]? = some x) : scanA l (n + 1) d =
    if opB x then (match d with | 0 => (n : Int) | d + 1 => scanA l n d) else if x.op == 14 then scanA l n (d + 1) else scanA l n d := by
  simp [scanA, h]

/-- Back over a whole tree. -/
theorem scanA_flat (b : Blk) : ∀ (n : Nat) (pre rest : List Cd) (d : Nat), b.ok n → scanA (pre ++ (b.flat ++ rest)) (pre.length + b.flat.length) d = scanA (pre ++ (b.flat ++ rest)) pre.length d := by
  induction b with
  | nil => intros; rfl
  | op x r ih =>
    intro n pre rest d ⟨_, _, h2, hr⟩
    have e : ∀ j : Int, 11 ≤ j → (x.op == j) = false := fun j a => by rw [beq_eq_false_iff_ne]; omega
    have i1 := ih n (pre ++ [x]) rest d hr
    simp only [List.append_assoc, List.cons_append, List.nil_append, List.length_append, List.length_cons, List.length_nil] at i1
    simp only [Blk.flat, List.cons_append, List.length_cons]
    rw [show pre.length + (r.flat.length + 1) = pre.length + (0 + 1) + r.flat.length from by omega, i1]
    rw [Nat.zero_add, scanA_step _ _ _ x (get_pre ..)]
    simp [opB, e]
  | iff a t r iht ihr =>
    intro n pre rest d ⟨_, _, ht, hr⟩
    simp only [Blk.flat, List.cons_append, List.length_cons, List.append_assoc, List.length_append]
    have i2 := ihr n (pre ++ cIf a :: (t.flat ++ [cEnd])) rest d hr
    simp only [List.append_assoc, List.cons_append, List.nil_append, List.length_append, List.length_cons, List.length_nil] at i2
    rw [show pre.length + (t.flat.length + (r.flat.length + 1) + 1) = pre.length + (t.flat.length + (0 + 1) + 1) + r.flat.length from by omega, i2]
    rw [show pre.length + (t.flat.length + (0 + 1) + 1) = (pre.length + 1 + t.flat.length) + 1 from by omega]
    have g1 : (pre ++ cIf a :: (t.flat ++ cEnd :: (r.flat ++ rest)))[pre.length + 1 + t.flat.length]? = some cEnd := by
      have := get_pre (pre ++ cIf a :: t.flat) cEnd (r.flat ++ rest)
      simp only [List.append_assoc, List.cons_append, List.length_append, List.length_cons] at this
      rw [← this]; congr 1; omega
    rw [scanA_step _ _ _ _ g1]
    have i1 := iht (n - 1) (pre ++ [cIf a]) (cEnd :: (r.flat ++ rest)) (d + 1) ht
    simp only [List.append_assoc, List.cons_append, List.nil_append, List.length_append, List.length_cons, List.length_nil] at i1
    rw [opB_end]
    simp only [Bool.false_eq_true, if_false]
    rw [show (cEnd.op == 14) = true from rfl]
    simp only [if_true]
    rw [show pre.length + 1 + t.flat.length = pre.length + (0 + 1) + t.flat.length from by omega, i1, Nat.zero_add]
    rw [scanA_step _ _ _ _ (get_pre ..), opB_if]
    rfl
  | ife a t e r iht ihe ihr =>
    intro n pre rest d ⟨_, _, ht, he, hr⟩
    simp only [Blk.flat, List.cons_append, List.length_cons, List.append_assoc, List.length_append]
    have i2 := ihr n (pre ++ cIf a :: (t.flat ++ cElse :: (e.flat ++ [cEnd]))) rest d hr
    simp only [List.append_assoc, List.cons_append, List.nil_append, List.length_append, List.length_cons, List.length_nil] at i2
    rw [show pre.length + (t.flat.length + (e.flat.length + (r.flat.length + 1) + 1) + 1) = pre.length + (t.flat.length + (e.flat.length + (0 + 1) + 1) + 1) + r.flat.length from by omega, i2]
    rw [show pre.length + (t.flat.length + (e.flat.length + (0 + 1) + 1) + 1) = (pre.length + 1 + t.flat.length + 1 + e.flat.length) + 1 from by omega]
    have g1 : (pre ++ cIf a :: (t.flat ++ cElse :: (e.flat ++ cEnd :: (r.flat ++ rest))))[pre.length + 1 + t.flat.length + 1 + e.flat.length]? = some cEnd := by
      have := get_pre (pre ++ cIf a :: (t.flat ++ cElse :: e.flat)) cEnd (r.flat ++ rest)
      simp only [List.append_assoc, List.cons_append, List.length_append, List.length_cons] at this
      rw [← this]; congr 1; omega
    have g2 : (pre ++ cIf a :: (t.flat ++ cElse :: (e.flat ++ cEnd :: (r.flat ++ rest))))[pre.length + 1 + t.flat.length]? = some cElse := by
      have := get_pre (pre ++ cIf a :: t.flat) cElse (e.flat ++ cEnd :: (r.flat ++ rest))
      simp only [List.append_assoc, List.cons_append, List.length_append, List.length_cons] at this
      rw [← this]; congr 1; omega
    rw [scanA_step _ _ _ _ g1, opB_end]
    simp only [Bool.false_eq_true, if_false]
    rw [show (cEnd.op == 14) = true from rfl]
    simp only [if_true]
    have i0 := ihe (n - 1) (pre ++ cIf a :: (t.flat ++ [cElse])) (cEnd :: (r.flat ++ rest)) (d + 1) he
    simp only [List.append_assoc, List.cons_append, List.nil_append, List.length_append, List.length_cons, List.length_nil] at i0
    rw [show pre.length + 1 + t.flat.length + 1 + e.flat.length = pre.length + (t.flat.length + (0 + 1) + 1) + e.flat.length from by omega, i0]
    rw [show pre.length + (t.flat.length + (0 + 1) + 1) = (pre.length + 1 + t.flat.length) + 1 from by omega]
    rw [scanA_step _ _ _ _ g2, opB_else]
    simp only [Bool.false_eq_true, if_false]
    rw [show (cElse.op == 14) = false from rfl]
    simp only [Bool.false_eq_true, if_false]
    have i1 := iht (n - 1) (pre ++ [cIf a]) (cElse :: (e.flat ++ cEnd :: (r.flat ++ rest))) (d + 1) ht
    simp only [List.append_assoc, List.cons_append, List.nil_append, List.length_append, List.length_cons, List.length_nil] at i1
    rw [show pre.length + 1 + t.flat.length = pre.length + (0 + 1) + t.flat.length from by omega, i1, Nat.zero_add]
    rw [scanA_step _ _ _ _ (get_pre ..), opB_if]
    rfl
  | loop a c t r iht ihr =>
    intro n pre rest d ⟨_, _, _, ht, hr⟩
    simp only [Blk.flat, List.cons_append, List.length_cons, List.append_assoc, List.length_append]
    have i2 := ihr n (pre ++ cLoop a c :: (t.flat ++ [cEnd])) rest d hr
    simp only [List.append_assoc, List.cons_append, List.nil_append, List.length_append, List.length_cons, List.length_nil] at i2
    rw [show pre.length + (t.flat.length + (r.flat.length + 1) + 1) = pre.length + (t.flat.length + (0 + 1) + 1) + r.flat.length from by omega, i2]
    rw [show pre.length + (t.flat.length + (0 + 1) + 1) = (pre.length + 1 + t.flat.length) + 1 from by omega]
    have g1 : (pre ++ cLoop a c :: (t.flat ++ cEnd :: (r.flat ++ rest)))[pre.length + 1 + t.flat.length]? = some cEnd := by
      have := get_pre (pre ++ cLoop a c :: t.flat) cEnd (r.flat ++ rest)
      simp only [List.append_assoc, List.cons_append, List.length_append, List.length_cons] at this
      rw [← this]; congr 1; omega
    rw [scanA_step _ _ _ _ g1]
    have i1 := iht (n - 1) (pre ++ [cLoop a c]) (cEnd :: (r.flat ++ rest)) (d + 1) ht
    simp only [List.append_assoc, List.cons_append, List.nil_append, List.length_append, List.length_cons, List.length_nil] at i1
    rw [opB_end]
    simp only [Bool.false_eq_true, if_false]
    rw [show (cEnd.op == 14) = true from rfl]
    simp only [if_true]
    rw [show pre.length + 1 + t.flat.length = pre.length + (0 + 1) + t.flat.length from by omega, i1, Nat.zero_add]
    rw [scanA_step _ _ _ _ (get_pre ..), opB_loop]
    rfl
end Go.Proofs.Ytfpecplpammhiaa
