/- Part 2 of what the claim needs. -/
import Derived.Test.YtelbfeidpcojmaaGreatSa1
namespace Go.Proofs.YtelbfeidpcojmaaGreat
set_option linter.unusedVariables false
set_option linter.unusedSimpArgs false

theorem op14' {x : Cd} (h : cvOk x = true) (h10 : x.op ≤ 10) : x.op = 1 ∨ x.op = 2 ∨ x.op = 3 ∨ x.op = 4 ∨ x.op = 5 ∨ x.op = 6 ∨ x.op = 7 ∨ x.op = 8 ∨ x.op = 9 ∨ x.op = 10 := by
  have := cvOk_op h; omega

def wordsOk (r : List Int) : Prop := ∀ v ∈ r, 0 ≤ v ∧ v ≤ 255
def rg (r : List Int) (i : Int) : Int := r.getD i.toNat 0
def lessI (a b : Int) : Int := if a < b then 1 else 0
/-- One instruction that is not part of the structure, on the registers of a lane and the memory. -/
def simp1 (x : Cd) (id : Nat) (r m : List Int) : List Int × List Int :=
  if x.op == 1 then (r.set x.a.toNat x.b, m)
  else if x.op == 2 then (r.set x.a.toNat id, m)
  else if x.op == 3 then (r.set x.a.toNat ((rg r x.a + rg r x.b) % 256), m)
  else if x.op == 4 then (r.set x.a.toNat (rg r x.a * rg r x.b % 256), m)
  else if x.op == 5 then (r.set x.a.toNat (rg r x.b), m)
  else if x.op == 6 then (r.set x.a.toNat (lessI (rg r x.b) (rg r x.c)), m)
  else if x.op == 7 then (if rg r x.c == 0 then r else r.set x.a.toNat (rg r x.b), m)
  else if x.op == 8 then (r.set x.a.toNat (m.getD (rg r x.b % m.length).toNat 0), m)
  else if x.op == 9 then (r, m.set (rg r x.b % m.length).toNat (rg r x.a))
  else (r, m)

theorem rg_word {r : List Int} (h : wordsOk r) (i : Int) : 0 ≤ rg r i ∧ rg r i ≤ 255 := by
  unfold rg
  rw [List.getD_eq_getElem?_getD]
  cases hx : r[i.toNat]? with
  | none => simp
  | some v => exact h v (List.mem_of_getElem? hx)
theorem getD_word {r : List Int} (h : wordsOk r) (i : Nat) : 0 ≤ r.getD i 0 ∧ r.getD i 0 ≤ 255 := by
  rw [List.getD_eq_getElem?_getD]
  cases hx : r[i]? with
  | none => simp
  | some v => exact h v (List.mem_of_getElem? hx)
theorem words_set {r : List Int} (h : wordsOk r) (i : Nat) {v : Int} (hv : 0 ≤ v ∧ v ≤ 255) : wordsOk (r.set i v) := by
  intro u hu
  rcases List.mem_or_eq_of_mem_set hu with hu | rfl
  · exact h u hu
  · exact hv
theorem simp1_len (x : Cd) (id : Nat) (r m : List Int) : (simp1 x id r m).1.length = r.length ∧ (simp1 x id r m).2.length = m.length := by
  unfold simp1
  repeat' split
  all_goals simp
theorem simp1_words {x : Cd} {id : Nat} {r m : List Int} (hv : cvOk x = true) (hid : id ≤ 255) (hr : wordsOk r) (hm : wordsOk m) : wordsOk (simp1 x id r m).1 ∧ wordsOk (simp1 x id r m).2 := by
  have hb := cvOk_b hv
  have ra := rg_word hr x.a
  have rb := rg_word hr x.b
  have rc := rg_word hr x.c
  have gm := getD_word hm (rg r x.b % m.length).toNat
  unfold simp1
  split
  · exact ⟨words_set hr _ hb, hm⟩
  split
  · exact ⟨words_set hr _ (by omega), hm⟩
  split
  · exact ⟨words_set hr _ (by omega), hm⟩
  split
  · exact ⟨words_set hr _ ⟨Int.emod_nonneg _ (by omega), by have := Int.emod_lt_of_pos (rg r x.a * rg r x.b) (show (0 : Int) < 256 by omega); omega⟩, hm⟩
  split
  · exact ⟨words_set hr _ rb, hm⟩
  split
  · exact ⟨words_set hr _ (by unfold lessI; split <;> omega), hm⟩
  split
  · refine ⟨?_, hm⟩
    dsimp only
    split
    · exact hr
    · exact words_set hr _ rb
  split
  · exact ⟨words_set hr _ gm, hm⟩
  split
  · exact ⟨hr, words_set hm _ ra⟩
  · exact ⟨hr, hm⟩

/-- An access to the memory. -/
structure Acc where
  who : Nat
  cell : Nat
  wr : Bool
  ph : Nat
  deriving DecidableEq

/-- The state of lanes in lockstep. -/
structure LS where
  regs : List (List Int)
  mem : List Int
  beats : List (Nat × Nat)
  accs : List Acc
  phase : Nat

def lanesOf (m : Nat) : List Nat := (List.range 8).filter fun k => m.testBit k
def LS.reg (s : LS) (k : Nat) (r : Int) : Int := rg (s.regs.getD k []) r
def beat (p m : Nat) (s : LS) : LS := { s with beats := s.beats ++ [(p, m)] }
/-- The lanes of a mask whose register is not 0. -/
def onesOf (m : Nat) (r : Int) (s : LS) : Nat := (lanesOf m).foldl (fun out k => if s.reg k r == 0 then out else out ||| 2 ^ k) 0
def memOp (x : Cd) : Bool := x.op == 8 || x.op == 9
def exec1 (x : Cd) (s : LS) (k : Nat) : LS :=
  { s with
    regs := s.regs.set k (simp1 x k (s.regs.getD k []) s.mem).1
    mem := (simp1 x k (s.regs.getD k []) s.mem).2
    accs := if memOp x then s.accs ++ [⟨k, (s.reg k x.b % s.mem.length).toNat, x.op == 9, s.phase⟩] else s.accs }
def execM (x : Cd) (m : Nat) (s : LS) : LS :=
  let t := (lanesOf m).foldl (exec1 x) s
  if x.op == 10 then { t with phase := t.phase + 1 } else t

/-- n turns of a loop: the mask of the lanes that go on, and the state. -/
def turnsOf (f : Nat → LS → LS) (a : Int) : Nat → Nat → LS → LS
  | 0, _, s => s
  | n + 1, m, s => turnsOf f a n (onesOf m a s) (f (onesOf m a s) s)

/-- A tree that begins at place p, under a mask. -/
def Blk.run : Blk → Nat → Nat → LS → LS
  | .nil, _, _, s => s
  | .op x r, p, m, s => if m = 0 then s else r.run (p + 1) m (execM x m (beat p m s))
  | .iff a t r, p, m, s => if m = 0 then s else
      r.run (p + t.flat.length + 2) m (t.run (p + 1) (onesOf m a s) (beat p m s))
  | .ife a t e r, p, m, s => if m = 0 then s else
      r.run (p + t.flat.length + e.flat.length + 3) m (e.run (p + t.flat.length + 2) (mdiff m (onesOf m a s)) (t.run (p + 1) (onesOf m a s) (beat p m s)))
  | .loop a b t r, p, m, s => if m = 0 then s else
      r.run (p + t.flat.length + 2) m (turnsOf (fun m s => t.run (p + 1) m s) a b.toNat m (beat p m s))

/-- The lanes before a run. -/
def LS.start (n : Nat) (mem : List Int) : LS := ⟨List.replicate n [0, 0, 0, 0], mem, [], [], 0⟩
/-- A run of a whole program. -/
def runT (b : Blk) (n : Nat) (mem : List Int) : LS := b.run 0 (2 ^ n - 1) (LS.start n mem)

/-! ### Folds over lanes -/
theorem foldl_lanes {α : Type} (m : Nat) (f : α → Nat → α) (s : α) : (lanesOf m).foldl f s = (List.range 8).foldl (fun s k => if m.testBit k then f s k else s) s := by
  unfold lanesOf
  rw [List.foldl_filter]

def onesTo (m : Nat) (a : Int) (s : LS) : Nat → Nat
  | 0 => 0
  | k + 1 => if m.testBit k && !(s.reg k a == 0) then onesTo m a s k ||| 2 ^ k else onesTo m a s k
def execTo (x : Cd) (m : Nat) (s : LS) : Nat → LS
  | 0 => s
  | k + 1 => if m.testBit k then exec1 x (execTo x m s k) k else execTo x m s k

theorem foldl_range {α : Type} (f : α → Nat → α) (s : α) (g : Nat → α) (h0 : g 0 = s) (hs : ∀ k, g (k + 1) = f (g k) k) : ∀ n, (List.range n).foldl f s = g n
  | 0 => h0.symm
  | n + 1 => by rw [List.range_succ, List.foldl_append, foldl_range f s g h0 hs n, hs n]; rfl
theorem onesOf_to (m : Nat) (a : Int) (s : LS) : onesOf m a s = onesTo m a s 8 := by
  unfold onesOf
  rw [foldl_lanes]
  refine foldl_range _ _ (onesTo m a s) rfl (fun k => ?_) 8
  simp only [onesTo]
  cases m.testBit k <;> cases (s.reg k a == 0) <;> rfl
theorem exec_to (x : Cd) (m : Nat) (s : LS) : (lanesOf m).foldl (exec1 x) s = execTo x m s 8 := by
  rw [foldl_lanes]
  exact foldl_range _ _ (execTo x m s) rfl (fun k => rfl) 8
theorem testBit_high {m n k : Nat} (h : m < 2 ^ n) (hk : n ≤ k) : m.testBit k = false := Nat.testBit_lt_two_pow (Nat.lt_of_lt_of_le h (Nat.pow_le_pow_right (by decide) hk))
theorem onesTo_more {m n : Nat} (h : m < 2 ^ n) (a : Int) (s : LS) : ∀ j, onesTo m a s (n + j) = onesTo m a s n
  | 0 => rfl
  | j + 1 => by
    show onesTo m a s (n + j + 1) = _
    simp [onesTo, testBit_high h (Nat.le_add_right n j), onesTo_more h a s j]
theorem execTo_more {m n : Nat} (h : m < 2 ^ n) (x : Cd) (s : LS) : ∀ j, execTo x m s (n + j) = execTo x m s n
  | 0 => rfl
  | j + 1 => by
    show execTo x m s (n + j + 1) = _
    simp [execTo, testBit_high h (Nat.le_add_right n j), execTo_more h x s j]
theorem onesOf_n {m n : Nat} (h : m < 2 ^ n) (hn : n ≤ 8) (a : Int) (s : LS) : onesOf m a s = onesTo m a s n := by
  rw [onesOf_to, show 8 = n + (8 - n) by omega, onesTo_more h]
theorem exec_n {m n : Nat} (h : m < 2 ^ n) (hn : n ≤ 8) (x : Cd) (s : LS) : (lanesOf m).foldl (exec1 x) s = execTo x m s n := by
  rw [exec_to, show 8 = n + (8 - n) by omega, execTo_more h]
theorem onesTo_lt (m : Nat) (a : Int) (s : LS) : ∀ k, onesTo m a s k < 2 ^ k
  | 0 => by simp [onesTo]
  | k + 1 => by
    have h := onesTo_lt m a s k
    have h2 : 2 ^ k < 2 ^ (k + 1) := Nat.pow_lt_pow_right (by decide) (by omega)
    simp only [onesTo]
    split
    · exact Nat.or_lt_two_pow (by omega) h2
    · omega
theorem onesTo_bit (m : Nat) (a : Int) (s : LS) (i : Nat) : ∀ k, (onesTo m a s k).testBit i = (decide (i < k) && (m.testBit i && !(s.reg i a == 0)))
  | 0 => by simp [onesTo]
  | k + 1 => by
    have h := onesTo_bit m a s i k
    simp only [onesTo]
    by_cases e : i = k
    · subst e
      split
      · rename_i hc
        rw [Nat.testBit_or, Nat.testBit_two_pow_self, Bool.or_true, hc]; simp
      · rename_i hc
        rw [h]
        simp only [Nat.lt_irrefl, decide_false, Bool.false_and]
        simp only [Bool.not_eq_true] at hc
        rw [hc]; simp
    · have e2 : (i < k + 1) = (i < k) := by simp; omega
      have e3 : decide (i < k + 1) = decide (i < k) := by simp only [e2]
      rw [e3]
      split
      · rw [Nat.testBit_or, h, Nat.testBit_two_pow_of_ne (fun h => e h.symm)]; simp
      · exact h
theorem onesOf_bit (m : Nat) (a : Int) (s : LS) (i : Nat) (hm : m < 2 ^ 8) : (onesOf m a s).testBit i = (m.testBit i && !(s.reg i a == 0)) := by
  rw [onesOf_to, onesTo_bit]
  by_cases h : i < 8
  · simp [h]
  · have := testBit_high (k := i) hm (by omega)
    simp [h, this]
theorem onesOf_lt {m n : Nat} (h : m < 2 ^ n) (hn : n ≤ 8) (a : Int) (s : LS) : onesOf m a s < 2 ^ n := by
  rw [onesOf_n h hn]; exact onesTo_lt _ _ _ _

/-! ### What is kept -/
/-- n lanes with 4 registers each, and a memory. -/
structure SOk (n : Nat) (s : LS) : Prop where
  n8 : n ≤ 8
  len : s.regs.length = n
  four : ∀ r ∈ s.regs, r.length = 4 ∧ wordsOk r
  memw : wordsOk s.mem
  mem1 : 1 ≤ s.mem.length
  mem2 : s.mem.length ≤ 32
theorem SOk.get {n : Nat} {s : LS} (h : SOk n s) {k : Nat} (hk : k < n) : (s.regs.getD k []).length = 4 ∧ wordsOk (s.regs.getD k []) := by
  have hk2 : k < s.regs.length := by rw [h.len]; exact hk
  have : s.regs.getD k [] = s.regs[k] := by simp [List.getD_eq_getElem?_getD, List.getElem?_eq_getElem hk2]
  rw [this]
  exact h.four _ (List.getElem_mem hk2)
theorem SOk.beat {n : Nat} {s : LS} (h : SOk n s) (p m : Nat) : SOk n (beat p m s) := ⟨h.n8, h.len, h.four, h.memw, h.mem1, h.mem2⟩
theorem SOk.exec1 {n : Nat} {s : LS} (h : SOk n s) {x : Cd} (hv : cvOk x = true) {k : Nat} (hk : k < n) : SOk n (exec1 x s k) := by
  have hg := h.get hk
  have hl := simp1_len x k (s.regs.getD k []) s.mem
  have hw := simp1_words (id := k) hv (by have := h.n8; omega) hg.2 h.memw
  refine ⟨h.n8, by simp [Proofs.YtelbfeidpcojmaaGreat.exec1, h.len], fun r hr => ?_, hw.2, by show 1 ≤ _; rw [show (Proofs.YtelbfeidpcojmaaGreat.exec1 x s k).mem = (simp1 x k (s.regs.getD k []) s.mem).2 from rfl, hl.2]; exact h.mem1, by rw [show (Proofs.YtelbfeidpcojmaaGreat.exec1 x s k).mem = (simp1 x k (s.regs.getD k []) s.mem).2 from rfl, hl.2]; exact h.mem2⟩
  rcases List.mem_or_eq_of_mem_set hr with hr | rfl
  · exact h.four r hr
  · exact ⟨hl.1.trans hg.1, hw.1⟩
theorem SOk.execTo {n : Nat} {s : LS} (h : SOk n s) {x : Cd} (hv : cvOk x = true) (m : Nat) : ∀ k, k ≤ n → SOk n (execTo x m s k)
  | 0, _ => h
  | k + 1, hk => by
    have := SOk.execTo h hv m k (by omega)
    simp only [Proofs.YtelbfeidpcojmaaGreat.execTo]
    split
    · exact this.exec1 hv (by omega)
    · exact this
theorem execM_eq {m n : Nat} (h : m < 2 ^ n) (hn : n ≤ 8) (x : Cd) (s : LS) : execM x m s = if x.op == 10 then { execTo x m s n with phase := (execTo x m s n).phase + 1 } else execTo x m s n := by
  simp only [execM, exec_n h hn]
theorem SOk.execM {n : Nat} {s : LS} (h : SOk n s) {x : Cd} (hv : cvOk x = true) {m : Nat} (hm : m < 2 ^ n) : SOk n (execM x m s) := by
  have := h.execTo hv m n (Nat.le_refl _)
  rw [execM_eq hm h.n8]
  split
  · exact ⟨this.n8, this.len, this.four, this.memw, this.mem1, this.mem2⟩
  · exact this
theorem turns_ok {n : Nat} {f : Nat → LS → LS} (hf : ∀ m s, m < 2 ^ n → SOk n s → SOk n (f m s)) (a : Int) : ∀ (b m : Nat) (s : LS), m < 2 ^ n → SOk n s → SOk n (turnsOf f a b m s)
  | 0, _, _, _, h => h
  | b + 1, m, s, hm, h => turns_ok hf a b _ _ (onesOf_lt hm h.n8 a s) (hf _ _ (onesOf_lt hm h.n8 a s) h)
theorem run_ok {n : Nat} (b : Blk) : ∀ (d p m : Nat) (s : LS), b.ok d → m < 2 ^ n → SOk n s → SOk n (b.run p m s) := by
  induction b with
  | nil => intro d p m s _ _ h; exact h
  | op x r ih =>
    intro d p m s ⟨hx, h1, h2, hr⟩ hm h
    simp only [Blk.run]
    split
    · exact h
    · exact ih d _ _ _ hr hm ((h.beat p m).execM hx hm)
  | iff a t r iht ihr =>
    intro d p m s ⟨_, _, ht, hr⟩ hm h
    simp only [Blk.run]
    split
    · exact h
    · exact ihr d _ _ _ hr hm (iht _ _ _ _ ht (onesOf_lt hm h.n8 a s) (h.beat p m))
  | ife a t e r iht ihe ihr =>
    intro d p m s ⟨_, _, ht, he, hr⟩ hm h
    simp only [Blk.run]
    split
    · exact h
    · exact ihr d _ _ _ hr hm (ihe _ _ _ _ he (mdiff_lt hm) (iht _ _ _ _ ht (onesOf_lt hm h.n8 a s) (h.beat p m)))
  | loop a c t r iht ihr =>
    intro d p m s ⟨_, _, _, ht, hr⟩ hm h
    simp only [Blk.run]
    split
    · exact h
    · exact ihr d _ _ _ hr hm (turns_ok (fun m s hm h => iht _ _ _ _ ht hm h) a _ _ _ hm (h.beat p m))

/-! ### Places -/
theorem drop_cons {l : List Cd} {q : Nat} {x : Cd} {r : List Cd} (h : l.drop q = x :: r) : l[q]? = some x ∧ l.drop (q + 1) = r ∧ q < l.length := by
  have h1 : l[q]? = some x := by
    have := congrArg (fun m => m[0]?) h
    simpa using this
  refine ⟨h1, ?_, (List.getElem?_eq_some_iff.1 h1).1⟩
  rw [← List.drop_drop, h]; rfl
theorem drop_skip {l : List Cd} {q : Nat} {m r : List Cd} (h : l.drop q = m ++ r) : l.drop (q + m.length) = r := by
  rw [← List.drop_drop, h, List.drop_left]
theorem end_iff {l : List Cd} {q d : Nat} {x : Cd} {t : Blk} {r : List Cd} (ht : t.ok d) (h : l.drop q = x :: (t.flat ++ cEnd :: r)) :
    endOf l q = (((q + t.flat.length + 1 : Nat) : Int), (-1 : Int)) ∧ l.drop (q + 1) = t.flat ++ cEnd :: r ∧ l.drop (q + t.flat.length + 2) = r := by
  obtain ⟨h1, h2, h3⟩ := drop_cons h
  have h4 := drop_skip h2
  refine ⟨?_, h2, ?_⟩
  · unfold endOf
    rw [h2, scanE_flat t d _ _ _ _ ht, scanE_end0]
    congr 1
    omega
  · have := (drop_cons h4).2.1
    rw [← this]; congr 1; omega
theorem end_ife {l : List Cd} {q d d' : Nat} {x : Cd} {t e : Blk} {r : List Cd} (ht : t.ok d) (he : e.ok d') (h : l.drop q = x :: (t.flat ++ cElse :: (e.flat ++ cEnd :: r))) :
    endOf l q = (((q + t.flat.length + e.flat.length + 2 : Nat) : Int), ((q + t.flat.length + 1 : Nat) : Int)) ∧ l.drop (q + 1) = t.flat ++ cElse :: (e.flat ++ cEnd :: r) ∧
      l.drop (q + t.flat.length + 2) = e.flat ++ cEnd :: r ∧ l.drop (q + t.flat.length + e.flat.length + 3) = r := by
  obtain ⟨h1, h2, h3⟩ := drop_cons h
  have h4 := drop_skip h2
  have h5 := (drop_cons h4).2.1
  have h5' : l.drop (q + t.flat.length + 2) = e.flat ++ cEnd :: r := by rw [← h5]; congr 1; omega
  have h6 := drop_skip h5'
  refine ⟨?_, h2, h5', ?_⟩
  · unfold endOf
    rw [h2, scanE_flat t d _ _ _ _ ht, scanE_else, if_pos rfl, scanE_flat e d' _ _ _ _ he, scanE_end0]
    congr 1
    · omega
    · omega
  · have := (drop_cons h6).2.1
    rw [← this]; congr 1; omega

/-! ### Barriers that are split -/
def splitB (l : List Cd) (n : Nat) (bs : List (Nat × Nat)) : Bool := bs.any fun q => opAt l q.1 == 10 && !(q.2 == 2 ^ n - 1)
theorem splitB_snoc (l : List Cd) (n : Nat) (bs : List (Nat × Nat)) (p m : Nat) : splitB l n (bs ++ [(p, m)]) = (splitB l n bs || (opAt l p == 10 && !(m == 2 ^ n - 1))) := by
  simp [splitB, List.any_append]
theorem execTo_beats (x : Cd) (m : Nat) (s : LS) : ∀ k, (execTo x m s k).beats = s.beats
  | 0 => rfl
  | k + 1 => by
    simp only [execTo]
    split
    · exact execTo_beats x m s k
    · exact execTo_beats x m s k

/-! ### How many steps a tree can have -/
def Blk.wt : Blk → Nat
  | .nil => 0
  | .op _ r => 1 + r.wt
  | .iff _ t r => 1 + t.wt + r.wt
  | .ife _ t e r => 1 + t.wt + e.wt + r.wt
  | .loop _ b t r => 1 + b.toNat * t.wt + r.wt
theorem wt_le (b : Blk) : ∀ d, b.ok d → b.wt ≤ 4 ^ d * b.flat.length := by
  induction b with
  | nil => intro d _; simp [Blk.wt]
  | op x r ih =>
    intro d ⟨_, _, _, hr⟩
    have := ih d hr
    have h1 : 1 ≤ 4 ^ d := Nat.one_le_pow _ _ (by decide)
    simp only [Blk.wt, Blk.flat, List.length_cons, Nat.mul_add]
    omega
  | iff a t r iht ihr =>
    intro d ⟨_, hd, ht, hr⟩
    have h1 := iht (d - 1) ht
    have h2 := ihr d hr
    obtain ⟨e, rfl⟩ : ∃ e, d = e + 1 := ⟨d - 1, by omega⟩
    have h3 : 1 ≤ 4 ^ e := Nat.one_le_pow _ _ (by decide)
    simp only [Nat.add_sub_cancel] at h1
    simp only [Blk.wt, Blk.flat, List.length_cons, List.length_append, Nat.mul_add, Nat.pow_succ] at *
    have : 4 ^ e * t.flat.length ≤ 4 ^ e * 4 * t.flat.length := Nat.mul_le_mul_right _ (by omega)
    omega
  | ife a t e r iht ihe ihr =>
    intro d ⟨_, hd, ht, he, hr⟩
    have h1 := iht (d - 1) ht
    have h1e := ihe (d - 1) he
    have h2 := ihr d hr
    obtain ⟨f, rfl⟩ : ∃ f, d = f + 1 := ⟨d - 1, by omega⟩
    have h3 : 1 ≤ 4 ^ f := Nat.one_le_pow _ _ (by decide)
    simp only [Nat.add_sub_cancel] at h1 h1e
    simp only [Blk.wt, Blk.flat, List.length_cons, List.length_append, Nat.mul_add, Nat.pow_succ] at *
    have q1 : 4 ^ f * t.flat.length ≤ 4 ^ f * 4 * t.flat.length := Nat.mul_le_mul_right _ (by omega)
    have q2 : 4 ^ f * e.flat.length ≤ 4 ^ f * 4 * e.flat.length := Nat.mul_le_mul_right _ (by omega)
    omega
  | loop a c t r iht ihr =>
    intro d ⟨_, hc, hd, ht, hr⟩
    have h1 := iht (d - 1) ht
    have h2 := ihr d hr
    obtain ⟨e, rfl⟩ : ∃ e, d = e + 1 := ⟨d - 1, by omega⟩
    have h3 : 1 ≤ 4 ^ e := Nat.one_le_pow _ _ (by decide)
    simp only [Nat.add_sub_cancel] at h1
    simp only [Blk.wt, Blk.flat, List.length_cons, List.length_append, Nat.mul_add, Nat.pow_succ] at *
    have q1 : c.toNat * t.wt ≤ 4 * t.wt := Nat.mul_le_mul_right _ (by omega)
    have q2 : 4 * t.wt ≤ 4 * (4 ^ e * t.flat.length) := Nat.mul_le_mul_left _ h1
    have q3 : 4 * (4 ^ e * t.flat.length) = 4 ^ e * 4 * t.flat.length := by rw [← Nat.mul_assoc, Nat.mul_comm 4]
    omega
theorem turns_beats {f : Nat → LS → LS} {c : Nat} (hf : ∀ m s, (f m s).beats.length ≤ s.beats.length + c) (a : Int) : ∀ (b m : Nat) (s : LS), (turnsOf f a b m s).beats.length ≤ s.beats.length + b * c
  | 0, _, _ => by simp [turnsOf]
  | b + 1, m, s => by
    have h1 := turns_beats hf a b (onesOf m a s) (f (onesOf m a s) s)
    have h2 := hf (onesOf m a s) s
    simp only [turnsOf, Nat.add_mul]
    omega
theorem execM_beats (x : Cd) (m : Nat) (s : LS) : (execM x m s).beats = s.beats := by
  have : ((lanesOf m).foldl (exec1 x) s).beats = s.beats := by
    rw [exec_to]; exact execTo_beats x m s 8
  unfold execM
  dsimp only
  split <;> exact this
theorem run_beats (b : Blk) : ∀ (p m : Nat) (s : LS), (b.run p m s).beats.length ≤ s.beats.length + b.wt := by
  induction b with
  | nil => intro p m s; simp [Blk.run]
  | op x r ih =>
    intro p m s
    simp only [Blk.run]
    split
    · omega
    · have := ih (p + 1) m (execM x m (beat p m s))
      rw [execM_beats] at this
      simp [beat, Blk.wt] at *
      omega
  | iff a t r iht ihr =>
    intro p m s
    simp only [Blk.run]
    split
    · omega
    · have h1 := ihr (p + t.flat.length + 2) m (t.run (p + 1) (onesOf m a s) (beat p m s))
      have h2 := iht (p + 1) (onesOf m a s) (beat p m s)
      have h3 : (beat p m s).beats.length = s.beats.length + 1 := by simp [beat]
      simp only [Blk.wt]
      omega
  | ife a t e r iht ihe ihr =>
    intro p m s
    simp only [Blk.run]
    split
    · omega
    · have h1 := ihr (p + t.flat.length + e.flat.length + 3) m (e.run (p + t.flat.length + 2) (mdiff m (onesOf m a s)) (t.run (p + 1) (onesOf m a s) (beat p m s)))
      have h4 := ihe (p + t.flat.length + 2) (mdiff m (onesOf m a s)) (t.run (p + 1) (onesOf m a s) (beat p m s))
      have h2 := iht (p + 1) (onesOf m a s) (beat p m s)
      have h3 : (beat p m s).beats.length = s.beats.length + 1 := by simp [beat]
      simp only [Blk.wt]
      omega
  | loop a c t r iht ihr =>
    intro p m s
    simp only [Blk.run]
    split
    · omega
    · have h1 := ihr (p + t.flat.length + 2) m (turnsOf (fun m s => t.run (p + 1) m s) a c.toNat m (beat p m s))
      have h2 := turns_beats (f := fun m s => t.run (p + 1) m s) (fun m s => iht (p + 1) m s) a c.toNat m (beat p m s)
      have h3 : (beat p m s).beats.length = s.beats.length + 1 := by simp [beat]
      simp only [Blk.wt]
      omega
theorem run_zero (b : Blk) (p : Nat) (s : LS) : b.run p 0 s = s := by
  cases b <;> simp [Blk.run]
theorem turns_succ (f : Nat → LS → LS) (a : Int) {b j : Nat} (h : j < b) (m : Nat) (s : LS) : turnsOf f a (b - j) m s = turnsOf f a (b - (j + 1)) (onesOf m a s) (f (onesOf m a s) s) := by
  obtain ⟨e, he⟩ : ∃ e, b - j = e + 1 := ⟨b - j - 1, by omega⟩
  rw [he, show b - (j + 1) = e by omega]
  rfl

def memOk (m : List Int) : Bool := m.all (fun v => inR v 0 255) && inR m.length 1 32
theorem memOk_iff {m : List Int} : memOk m = true ↔ wordsOk m ∧ 1 ≤ m.length ∧ m.length ≤ 32 := by
  simp only [memOk, Bool.and_eq_true, List.all_eq_true, inR_iff, wordsOk]
  constructor
  · rintro ⟨h1, h2⟩; exact ⟨h1, by omega, by omega⟩
  · rintro ⟨h1, h2⟩; exact ⟨h1, by omega, by omega⟩
def lockOk (l : List Cd) (n : Int) (m : List Int) : Bool := pv l && (inR n 1 8 && memOk m)
instance : Nonempty Blk := ⟨.nil⟩
/-- The tree of a valid program. -/
noncomputable def treeOf (l : List Cd) : Blk := Classical.epsilon fun b => b.ok 3 ∧ b.flat = l
theorem treeOf_spec {l : List Cd} (h : pv l = true) : (treeOf l).ok 3 ∧ (treeOf l).flat = l := Classical.epsilon_spec (pv_tree.1 h).2
/-- The state after a run of a valid program. -/
noncomputable def lockS (l : List Cd) (n : Nat) (m : List Int) : LS := runT (treeOf l) n m
noncomputable def traceOf (l : List Cd) (n : Int) (m : List Int) : List (Nat × Nat) := if lockOk l n m then (lockS l n.toNat m).beats else []
theorem trace_len {l : List Cd} (h : pv l = true) (n : Nat) (m : List Int) : (lockS l n m).beats.length ≤ 2560 := by
  obtain ⟨h1, h2⟩ := treeOf_spec h
  have h3 := wt_le _ 3 h1
  have h4 := run_beats (treeOf l) 0 (2 ^ n - 1) (LS.start n m)
  have h40 := (pv_iff.1 h).1
  rw [h2] at h3
  have : (LS.start n m).beats.length = 0 := rfl
  have e : lockS l n m = (treeOf l).run 0 (2 ^ n - 1) (LS.start n m) := rfl
  rw [e]
  omega

/-- Every step is at a place of the tree, under some lanes. -/
def beatsIn (lo hi n : Nat) (bs : List (Nat × Nat)) : Prop := ∀ q ∈ bs, lo ≤ q.1 ∧ q.1 < hi ∧ 0 < q.2 ∧ q.2 < 2 ^ n
theorem beatsIn.snoc {lo hi n : Nat} {bs : List (Nat × Nat)} (h : beatsIn lo hi n bs) {p m : Nat} (h1 : lo ≤ p) (h2 : p < hi) (h3 : 0 < m) (h4 : m < 2 ^ n) : beatsIn lo hi n (bs ++ [(p, m)]) := by
  intro q hq
  rcases List.mem_append.1 hq with hq | hq
  · exact h q hq
  · simp at hq; subst hq; exact ⟨h1, h2, h3, h4⟩
theorem turns_in {lo hi n : Nat} (hn : n ≤ 8) {f : Nat → LS → LS} (hf : ∀ m s, m < 2 ^ n → beatsIn lo hi n s.beats → beatsIn lo hi n (f m s).beats) (a : Int) : ∀ (b m : Nat) (s : LS), m < 2 ^ n → beatsIn lo hi n s.beats → beatsIn lo hi n (turnsOf f a b m s).beats
  | 0, _, _, _, h => h
  | b + 1, m, s, hm, h => turns_in hn hf a b _ _ (onesOf_lt hm hn a s) (hf _ _ (onesOf_lt hm hn a s) h)
theorem run_within {n : Nat} (hn : n ≤ 8) (b : Blk) : ∀ (lo hi p m : Nat) (s : LS), lo ≤ p → p + b.flat.length ≤ hi → m < 2 ^ n → beatsIn lo hi n s.beats → beatsIn lo hi n (b.run p m s).beats := by
  induction b with
  | nil => intro lo hi p m s _ _ _ h; exact h
  | op x r ih =>
    intro lo hi p m s h1 h2 hm h
    simp only [Blk.flat, List.length_cons] at h2
    simp only [Blk.run]
    split
    · exact h
    · refine ih lo hi (p + 1) m _ (by omega) (by omega) hm ?_
      rw [execM_beats]
      exact h.snoc h1 (by omega) (by omega) hm
  | iff a t r iht ihr =>
    intro lo hi p m s h1 h2 hm h
    simp only [Blk.flat, List.length_cons, List.length_append] at h2
    simp only [Blk.run]
    split
    · exact h
    · refine ihr lo hi _ m _ (by omega) (by omega) hm ?_
      exact iht lo hi _ _ _ (by omega) (by omega) (onesOf_lt hm hn a s) (h.snoc h1 (by omega) (by omega) hm)
  | ife a t e r iht ihe ihr =>
    intro lo hi p m s h1 h2 hm h
    simp only [Blk.flat, List.length_cons, List.length_append] at h2
    simp only [Blk.run]
    split
    · exact h
    · refine ihr lo hi _ m _ (by omega) (by omega) hm ?_
      refine ihe lo hi _ _ _ (by omega) (by omega) (mdiff_lt hm) ?_
      exact iht lo hi _ _ _ (by omega) (by omega) (onesOf_lt hm hn a s) (h.snoc h1 (by omega) (by omega) hm)
  | loop a c t r iht ihr =>
    intro lo hi p m s h1 h2 hm h
    simp only [Blk.flat, List.length_cons, List.length_append] at h2
    simp only [Blk.run]
    split
    · exact h
    · refine ihr lo hi _ m _ (by omega) (by omega) hm ?_
      exact turns_in hn (fun m s hm h => iht lo hi _ m s (by omega) (by omega) hm h) a _ m _ hm (h.snoc h1 (by omega) (by omega) hm)
theorem trace_in {l : List Cd} {n : Int} {m : List Int} : ∀ q ∈ traceOf l n m, q.1 < l.length ∧ 0 < q.2 ∧ q.2 < 2 ^ n.toNat := by
  intro q hq
  unfold traceOf at hq
  split at hq
  · rename_i h
    simp only [lockOk, Bool.and_eq_true] at h
    have hn := inR_iff.1 h.2.1
    obtain ⟨_, h2⟩ := treeOf_spec h.1
    have h3 := run_within (n := n.toNat) (by omega) (treeOf l) 0 l.length 0 (2 ^ n.toNat - 1) (LS.start n.toNat m) (by omega) (by rw [h2]; omega) (by have : 0 < 2 ^ n.toNat := Nat.pow_pos (by decide); omega) (fun q hq => by simp [LS.start] at hq)
    have := h3 q hq
    exact ⟨this.2.1, this.2.2.1, this.2.2.2⟩
  · simp at hq

/-! ### Counts, the hottest place, profiles -/

def Bd (s : LS) : Prop := s.accs.length ≤ 8 * s.beats.length ∧ s.phase ≤ s.beats.length
theorem exec1_acc (x : Cd) (s : LS) (k : Nat) : (exec1 x s k).accs.length ≤ s.accs.length + 1 := by
  simp only [exec1]
  split <;> simp
theorem execTo_acc (x : Cd) (m : Nat) (s : LS) : ∀ k, (execTo x m s k).accs.length ≤ s.accs.length + k
  | 0 => Nat.le_refl _
  | k + 1 => by
    have h := execTo_acc x m s k
    simp only [execTo]
    split
    · have := exec1_acc x (execTo x m s k) k; omega
    · omega
theorem execTo_phase (x : Cd) (m : Nat) (s : LS) : ∀ k, (execTo x m s k).phase = s.phase
  | 0 => rfl
  | k + 1 => by
    have h := execTo_phase x m s k
    simp only [execTo]
    split <;> exact h
theorem execM_acc (x : Cd) (m : Nat) (s : LS) : (execM x m s).accs.length ≤ s.accs.length + 8 := by
  have h := execTo_acc x m s 8
  rw [← exec_to] at h
  unfold execM
  dsimp only
  split <;> exact h
theorem execM_phase (x : Cd) (m : Nat) (s : LS) : (execM x m s).phase ≤ s.phase + 1 := by
  have h := execTo_phase x m s 8
  rw [← exec_to] at h
  unfold execM
  dsimp only
  split
  · simp only []; omega
  · omega
theorem Bd.beat {s : LS} (h : Bd s) (p m : Nat) : Bd (beat p m s) := by
  obtain ⟨h1, h2⟩ := h
  constructor
  · show s.accs.length ≤ 8 * (s.beats ++ [(p, m)]).length
    simp; omega
  · show s.phase ≤ (s.beats ++ [(p, m)]).length
    simp; omega
theorem Bd.op {s : LS} (h : Bd s) (x : Cd) (p m : Nat) : Bd (execM x m (Proofs.YtelbfeidpcojmaaGreat.beat p m s)) := by
  obtain ⟨h1, h2⟩ := h
  have a1 := execM_acc x m (Proofs.YtelbfeidpcojmaaGreat.beat p m s)
  have a2 := execM_phase x m (Proofs.YtelbfeidpcojmaaGreat.beat p m s)
  have a3 : (Proofs.YtelbfeidpcojmaaGreat.beat p m s).accs.length = s.accs.length := rfl
  have a4 : (Proofs.YtelbfeidpcojmaaGreat.beat p m s).phase = s.phase := rfl
  have a5 : (Proofs.YtelbfeidpcojmaaGreat.beat p m s).beats.length = s.beats.length + 1 := by simp [Proofs.YtelbfeidpcojmaaGreat.beat]
  unfold Bd
  rw [execM_beats]
  omega
theorem turns_bd {f : Nat → LS → LS} (hf : ∀ m s, Bd s → Bd (f m s)) (a : Int) : ∀ (b m : Nat) (s : LS), Bd s → Bd (turnsOf f a b m s)
  | 0, _, _, h => h
  | b + 1, m, s, h => turns_bd hf a b _ _ (hf _ _ h)
theorem run_bd (b : Blk) : ∀ (p m : Nat) (s : LS), Bd s → Bd (b.run p m s) := by
  induction b with
  | nil => intro p m s h; exact h
  | op x r ih =>
    intro p m s h
    simp only [Blk.run]
    split
    · exact h
    · exact ih _ _ _ (h.op x p m)
  | iff a t r iht ihr =>
    intro p m s h
    simp only [Blk.run]
    split
    · exact h
    · exact ihr _ _ _ (iht _ _ _ (h.beat p m))
  | ife a t e r iht ihe ihr =>
    intro p m s h
    simp only [Blk.run]
    split
    · exact h
    · exact ihr _ _ _ (ihe _ _ _ (iht _ _ _ (h.beat p m)))
  | loop a c t r iht ihr =>
    intro p m s h
    simp only [Blk.run]
    split
    · exact h
    · exact ihr _ _ _ (turns_bd (fun m s h => iht _ m s h) a _ m _ (h.beat p m))
theorem Bd.start (n : Nat) (mem : List Int) : Bd (LS.start n mem) := ⟨Nat.le_refl _, Nat.le_refl _⟩

/-! ### Lanes of a mask, one by one -/
def lanesTo (m k : Nat) : List Nat := (List.range k).filter fun j => m.testBit j
def lanesI (m : Nat) : List Int := (lanesOf m).map fun (k : Nat) => (k : Int)
theorem lanesTo_succ (m k : Nat) : lanesTo m (k + 1) = if m.testBit k then lanesTo m k ++ [k] else lanesTo m k := by
  unfold lanesTo
  rw [List.range_succ, List.filter_append]
  cases h : m.testBit k <;> simp [h]
theorem lanesTo_len (m : Nat) : ∀ k, (lanesTo m k).length ≤ k := fun k => by
  have := List.length_filter_le (fun j => m.testBit j) (List.range k)
  simpa [lanesTo] using this
theorem lanesOf_len (m : Nat) : (lanesOf m).length ≤ 8 := lanesTo_len m 8
theorem lanesOf_mem {m k : Nat} : k ∈ lanesOf m ↔ k < 8 ∧ m.testBit k = true := by simp [lanesOf]
theorem lanesI_len (m : Nat) : (lanesI m).length = (lanesOf m).length := by simp [lanesI]
theorem lanesI_get {m j k : Nat} (h : (lanesOf m)[j]? = some k) : (lanesI m)[j]? = some (k : Int) := by simp [lanesI, h]
theorem lanesOf_lt {m n : Nat} (hm : m < 2 ^ n) {k : Nat} (h : k ∈ lanesOf m) : k < n := by
  have h2 := (lanesOf_mem.1 h).2
  refine Nat.lt_of_not_le fun hge => ?_
  rw [testBit_high hm hge] at h2
  cases h2
/-- What the first j lanes of a mask have done. -/
def foldTo {α : Type} (f : α → Nat → α) (m : Nat) (s : α) (j : Nat) : α := ((lanesOf m).take j).foldl f s
theorem foldTo_succ {α : Type} (f : α → Nat → α) {m j k : Nat} (s : α) (h : (lanesOf m)[j]? = some k) : foldTo f m s (j + 1) = f (foldTo f m s j) k := by
  obtain ⟨hj, rfl⟩ := List.getElem?_eq_some_iff.1 h
  unfold foldTo
  rw [List.take_succ_eq_append_getElem hj, List.foldl_append]
  rfl
theorem foldTo_all {α : Type} (f : α → Nat → α) (m : Nat) (s : α) : foldTo f m s (lanesOf m).length = (lanesOf m).foldl f s := by
  unfold foldTo; rw [List.take_length]

def cN (c : List Int) (k : Nat) : Int := c.getD k 0
theorem cN_get {c : List Int} {k : Nat} (h : k < c.length) : c[k]? = some (cN c k) := by
  simp [cN, List.getD_eq_getElem?_getD, List.getElem?_eq_getElem h]
def Hot (c : List Int) (k : Nat) (b : Int) : Prop :=
  (b = -1 ∧ ∀ j, j < k → cN c j ≤ 0) ∨ (∃ i : Nat, b = (i : Int) ∧ i < k ∧ 0 < cN c i ∧ (∀ j, j < k → cN c j ≤ cN c i) ∧ ∀ j, j < i → cN c j < cN c i)
theorem Hot.eq {c : List Int} {k : Nat} {a b : Int} (ha : Hot c k a) (hb : Hot c k b) : a = b := by
  rcases ha with ⟨rfl, h1⟩ | ⟨i, rfl, h1, h2, h3, h4⟩ <;> rcases hb with ⟨rfl, k1⟩ | ⟨j, rfl, k1, k2, k3, k4⟩
  · rfl
  · have := h1 j k1; omega
  · have := k1 i h1; omega
  · have a1 := h3 j k1
    have a2 := k3 i h1
    rcases Nat.lt_trichotomy i j with h | h | h
    · have := k4 i h; omega
    · rw [h]
    · have := h4 j h; omega


/-- A state (its steps are left empty), and the instructions that have been executed, with their masks. -/
structure GS where
  s : LS
  ev : List (Cd × Nat)
def GS.on (x : Cd) (m : Nat) (g : GS) : GS := ⟨g.s, g.ev ++ [(x, m)]⟩
def turnsG (f : Nat → GS → GS) (a : Int) : Nat → Nat → GS → GS
  | 0, _, g => g
  | n + 1, m, g => turnsG f a n (onesOf m a g.s) (f (onesOf m a g.s) g)
def Blk.go : Blk → Nat → GS → GS
  | .nil, _, g => g
  | .op x r, m, g => if m = 0 then g else r.go m ⟨execM x m g.s, g.ev ++ [(x, m)]⟩
  | .iff a t r, m, g => if m = 0 then g else r.go m (t.go (onesOf m a g.s) (g.on (cIf a) m))
  | .ife a t e r, m, g => if m = 0 then g else r.go m (e.go (mdiff m (onesOf m a g.s)) (t.go (onesOf m a g.s) (g.on (cIf a) m)))
  | .loop a b t r, m, g => if m = 0 then g else r.go m (turnsG (fun m g => t.go m g) a b.toNat m (g.on (cLoop a b) m))

def nb (s : LS) : LS := { s with beats := [] }
def evOf (l : List Cd) (bs : List (Nat × Nat)) : List (Cd × Nat) := bs.map fun q => (cdAt l q.1, q.2)
/-- A state without places. -/
def GS.of (l : List Cd) (s : LS) : GS := ⟨nb s, evOf l s.beats⟩

/-! ### A program has one tree -/

/-! ### What goes behind a tree -/
def Blk.app : Blk → Blk → Blk
  | .nil, c => c
  | .op x r, c => .op x (r.app c)
  | .iff a t r, c => .iff a t (r.app c)
  | .ife a t e r, c => .ife a t e (r.app c)
  | .loop a b t r, c => .loop a b t (r.app c)

/-- A block of one copy. -/
def mvOf : Blk → Option Cd
  | .op x .nil => if x.op == 5 then some x else none
  | _ => none
def Blk.picks : Blk → Blk
  | .nil => .nil
  | .op x r => .op x r.picks
  | .iff a t r => match mvOf t with
    | some y => .op ⟨7, y.a, y.b, a⟩ r.picks
    | none => .iff a t.picks r.picks
  | .ife a t e r => .ife a t.picks e.picks r.picks
  | .loop a b t r => .loop a b t.picks r.picks

/-- Equal states, and the same barriers. -/
def barr (ev : List (Cd × Nat)) : List (Cd × Nat) := ev.filter fun q => q.1.op == 10
def SameB (g h : GS) : Prop := g.s = h.s ∧ barr g.ev = barr h.ev
theorem SameB.on {g h : GS} (k : SameB g h) (x y : Cd) (m : Nat) (hx : x.op ≠ 10) (hy : y.op ≠ 10) : SameB (g.on x m) (h.on y m) := by
  refine ⟨k.1, ?_⟩
  have e1 : (x.op == 10) = false := beq_eq_false_iff_ne.2 hx
  have e2 : (y.op == 10) = false := beq_eq_false_iff_ne.2 hy
  simp only [GS.on, barr, List.filter_append, List.filter_cons, e1, e2]
  simpa [barr] using k.2
theorem SameB.turns {f f' : Nat → GS → GS} (hf : ∀ m g h, m < 2 ^ 8 → SameB g h → SameB (f m g) (f' m h)) (a : Int) : ∀ (b m : Nat) (g h : GS), m < 2 ^ 8 → SameB g h → SameB (turnsG f a b m g) (turnsG f' a b m h)
  | 0, _, _, _, _, k => k
  | b + 1, m, g, h, hm, k => by
    simp only [turnsG]
    rw [← k.1]
    have hlt := onesOf_lt hm (by omega) a g.s
    exact SameB.turns hf a b _ _ _ hlt (hf _ _ _ hlt k)

/-! ### The list of a tree with picks -/

/-! ### How many places -/

/-! ### Runs -/

def PR : List Int → List Int → Prop
  | [], [] => True
  | m :: s, m' :: s' => (m = m' ∨ (m = 13 ∧ m' = 11)) ∧ PR s s'
  | _, _ => False
theorem PR.refl : ∀ s, PR s s
  | [] => trivial
  | _ :: s => ⟨.inl rfl, PR.refl s⟩
theorem PR.len : ∀ {s s' : List Int}, PR s s' → s.length = s'.length
  | [], [], _ => rfl
  | _ :: s, _ :: s', h => by simp [PR.len h.2]
  | [], _ :: _, h => h.elim
  | _ :: _, [], h => h.elim
theorem SameB.refl (g : GS) : SameB g g := ⟨rfl, rfl⟩
theorem SameB.trans {f g h : GS} (a : SameB f g) (b : SameB g h) : SameB f h := ⟨a.1.trans b.1, a.2.trans b.2⟩

/-! ### How many loops -/

/-- New names for the four registers. -/
structure Names (f : Int → Int) : Prop where
  bd : ∀ r, 0 ≤ r → r ≤ 3 → 0 ≤ f r ∧ f r ≤ 3
  inj : ∀ r q, 0 ≤ r → r ≤ 3 → 0 ≤ q → q ≤ 3 → f r = f q → r = q
/-- The registers of a lane under other names. -/
def RR (f : Int → Int) (r r' : List Int) : Prop := r.length = 4 ∧ r'.length = 4 ∧ ∀ i, 0 ≤ i → i ≤ 3 → rg r' (f i) = rg r i
theorem rg_set (r : List Int) (a i v : Int) (hr : r.length = 4) (ha : 0 ≤ a ∧ a ≤ 3) (hi : 0 ≤ i ∧ i ≤ 3) : rg (r.set a.toNat v) i = if i = a then v else rg r i := by
  unfold rg
  rw [List.getD_eq_getElem?_getD, List.getD_eq_getElem?_getD, List.getElem?_set]
  by_cases e : i = a
  · subst e
    rw [if_pos rfl, if_pos (by omega), if_pos rfl]
    rfl
  · rw [if_neg (by omega), if_neg e]
theorem RR.set {f : Int → Int} (hf : Names f) {r r' : List Int} (h : RR f r r') {a : Int} (ha : 0 ≤ a ∧ a ≤ 3) (v : Int) : RR f (r.set a.toNat v) (r'.set (f a).toNat v) := by
  obtain ⟨h1, h2, h3⟩ := h
  refine ⟨by simp [h1], by simp [h2], fun i i0 i3 => ?_⟩
  rw [rg_set r' (f a) (f i) v h2 (hf.bd a ha.1 ha.2) (hf.bd i i0 i3), rg_set r a i v h1 ha ⟨i0, i3⟩, h3 i i0 i3]
  by_cases e : i = a
  · subst e; simp
  · rw [if_neg e, if_neg (fun h => e (hf.inj i a i0 i3 ha.1 ha.2 h))]
theorem ren_op (f : Int → Int) (x : Cd) : (ren f x).op = x.op := by
  unfold ren
  repeat' split
  all_goals rfl
theorem ren_simp1 {f : Int → Int} (hf : Names f) {x : Cd} (hv : cvOk x = true) (h10 : x.op ≤ 10) (id : Nat) {r r' m : List Int} (h : RR f r r') :
    RR f (simp1 x id r m).1 (simp1 (ren f x) id r' m).1 ∧ (simp1 (ren f x) id r' m).2 = (simp1 x id r m).2 ∧ (memOp x = true → rg r' (ren f x).b = rg r x.b) := by
  have ha := cvOk_a hv
  have hc := cvOk_c hv
  have hb2 := cvOk_b2 hv
  have g := h.2.2
  have S := fun v => h.set hf ha v
  have ho := op14' hv h10
  obtain ⟨o, a, b, c⟩ := x
  simp only at ha hc hb2 ho S
  have ga := g a ha.1 ha.2
  have gc := g c hc.1 hc.2
  rcases ho with rfl | rfl | rfl | rfl | rfl | rfl | rfl | rfl | rfl | rfl
  · exact ⟨S b, rfl, by simp [memOp]⟩
  · exact ⟨S id, rfl, by simp [memOp]⟩
  · have gb := g b (hb2 (by omega)).1 (hb2 (by omega)).2
    refine ⟨?_, rfl, by simp [memOp]⟩
    show RR f (r.set a.toNat _) (r'.set (f a).toNat ((rg r' (f a) + rg r' (f b)) % 256))
    rw [ga, gb]; exact S _
  · have gb := g b (hb2 (by omega)).1 (hb2 (by omega)).2
    refine ⟨?_, rfl, by simp [memOp]⟩
    show RR f (r.set a.toNat _) (r'.set (f a).toNat (rg r' (f a) * rg r' (f b) % 256))
    rw [ga, gb]; exact S _
  · have gb := g b (hb2 (by omega)).1 (hb2 (by omega)).2
    refine ⟨?_, rfl, by simp [memOp]⟩
    show RR f (r.set a.toNat _) (r'.set (f a).toNat (rg r' (f b)))
    rw [gb]; exact S _
  · have gb := g b (hb2 (by omega)).1 (hb2 (by omega)).2
    refine ⟨?_, rfl, by simp [memOp]⟩
    show RR f (r.set a.toNat _) (r'.set (f a).toNat (lessI (rg r' (f b)) (rg r' (f c))))
    rw [gb, gc]; exact S _
  · have gb := g b (hb2 (by omega)).1 (hb2 (by omega)).2
    refine ⟨?_, rfl, by simp [memOp]⟩
    show RR f (if rg r c == 0 then r else r.set a.toNat (rg r b)) (if rg r' (f c) == 0 then r' else r'.set (f a).toNat (rg r' (f b)))
    rw [gb, gc]
    cases rg r c == 0
    · exact S _
    · exact h
  · have gb := g b (hb2 (by omega)).1 (hb2 (by omega)).2
    refine ⟨?_, rfl, fun _ => gb⟩
    show RR f (r.set a.toNat _) (r'.set (f a).toNat (m.getD (rg r' (f b) % m.length).toNat 0))
    rw [gb]; exact S _
  · have gb := g b (hb2 (by omega)).1 (hb2 (by omega)).2
    refine ⟨h, ?_, fun _ => gb⟩
    show m.set (rg r' (f b) % m.length).toNat (rg r' (f a)) = m.set (rg r b % m.length).toNat (rg r a)
    rw [ga, gb]
  · exact ⟨h, rfl, by simp [memOp]⟩

/-- States that differ in the names of the registers. -/
structure RS (f : Int → Int) (n : Nat) (s t : LS) : Prop where
  ls : s.regs.length = n
  lt : t.regs.length = n
  rr : ∀ k, k < n → RR f (s.regs.getD k []) (t.regs.getD k [])
  mem : t.mem = s.mem
  beats : t.beats = s.beats
  accs : t.accs = s.accs
  phase : t.phase = s.phase
theorem getD_set_list {l : List (List Int)} {k j : Nat} (v : List Int) (hk : k < l.length) : (l.set k v).getD j [] = if j = k then v else l.getD j [] := by
  rw [List.getD_eq_getElem?_getD, List.getD_eq_getElem?_getD, List.getElem?_set]
  by_cases e : j = k
  · subst e; rw [if_pos rfl, if_pos hk, if_pos rfl]; rfl
  · rw [if_neg (fun h => e h.symm), if_neg e]
theorem RS.beat {f : Int → Int} {n : Nat} {s t : LS} (h : RS f n s t) (p m : Nat) : RS f n (beat p m s) (beat p m t) :=
  ⟨h.ls, h.lt, h.rr, h.mem, by show t.beats ++ _ = s.beats ++ _; rw [h.beats], h.accs, h.phase⟩
theorem RS.exec1 {f : Int → Int} (hf : Names f) {n : Nat} {s t : LS} (h : RS f n s t) {x : Cd} (hv : cvOk x = true) (h10 : x.op ≤ 10) {k : Nat} (hk : k < n) : RS f n (exec1 x s k) (exec1 (ren f x) t k) := by
  obtain ⟨e1, e2, e3⟩ := ren_simp1 hf hv h10 k (m := s.mem) (h.rr k hk)
  refine ⟨by simp [Proofs.YtelbfeidpcojmaaGreat.exec1, h.ls], by simp [Proofs.YtelbfeidpcojmaaGreat.exec1, h.lt], fun j hj => ?_, ?_, h.beats, ?_, h.phase⟩
  · simp only [Proofs.YtelbfeidpcojmaaGreat.exec1, h.mem]
    rw [getD_set_list _ (by rw [h.ls]; exact hk), getD_set_list _ (by rw [h.lt]; exact hk)]
    by_cases e : j = k
    · rw [if_pos e, if_pos e]; exact e1
    · rw [if_neg e, if_neg e]; exact h.rr j hj
  · simp only [Proofs.YtelbfeidpcojmaaGreat.exec1, h.mem]; exact e2
  · have em : memOp (ren f x) = memOp x := by simp [memOp, ren_op]
    simp only [Proofs.YtelbfeidpcojmaaGreat.exec1, em, h.accs, h.phase, h.mem, ren_op]
    cases hm : memOp x with
    | false => rfl
    | true =>
      have := e3 hm
      simp only [LS.reg, this, if_true]
theorem RS.execTo {f : Int → Int} (hf : Names f) {n : Nat} {s t : LS} (h : RS f n s t) {x : Cd} (hv : cvOk x = true) (h10 : x.op ≤ 10) (m : Nat) : ∀ k, k ≤ n → RS f n (execTo x m s k) (execTo (ren f x) m t k)
  | 0, _ => h
  | k + 1, hk => by
    have ih := RS.execTo hf h hv h10 m k (by omega)
    simp only [Proofs.YtelbfeidpcojmaaGreat.execTo]
    split
    · exact ih.exec1 hf hv h10 (by omega)
    · exact ih
theorem RS.execM {f : Int → Int} (hf : Names f) {n : Nat} (n8 : n ≤ 8) {s t : LS} (h : RS f n s t) {x : Cd} (hv : cvOk x = true) (h10 : x.op ≤ 10) {m : Nat} (hm : m < 2 ^ n) : RS f n (execM x m s) (execM (ren f x) m t) := by
  rw [execM_eq hm n8, execM_eq hm n8, ren_op]
  have := h.execTo hf hv h10 m n (Nat.le_refl _)
  split
  · exact ⟨this.ls, this.lt, this.rr, this.mem, this.beats, this.accs, by simp [this.phase]⟩
  · exact this
theorem RS.ones {f : Int → Int} {n : Nat} {s t : LS} (h : RS f n s t) {a : Int} (ha : 0 ≤ a ∧ a ≤ 3) {m : Nat} (hm : m < 2 ^ n) (n8 : n ≤ 8) : onesOf m (f a) t = onesOf m a s := by
  have m8 : m < 2 ^ 8 := Nat.lt_of_lt_of_le hm (Nat.pow_le_pow_right (by decide) n8)
  apply Nat.eq_of_testBit_eq
  intro i
  rw [onesOf_bit _ _ _ _ m8, onesOf_bit _ _ _ _ m8]
  by_cases hi : i < n
  · have := (h.rr i hi).2.2 a ha.1 ha.2
    simp only [LS.reg, this]
  · rw [testBit_high hm (by omega)]; rfl
/-- A tree under other names. -/
def Blk.ren (f : Int → Int) : Blk → Blk
  | .nil => .nil
  | .op x r => .op (Proofs.YtelbfeidpcojmaaGreat.ren f x) (r.ren f)
  | .iff a t r => .iff (f a) (t.ren f) (r.ren f)
  | .ife a t e r => .ife (f a) (t.ren f) (e.ren f) (r.ren f)
  | .loop a b t r => .loop (f a) b (t.ren f) (r.ren f)
theorem RS.turns {f : Int → Int} {n : Nat} (n8 : n ≤ 8) {h h' : Nat → LS → LS} (hf : ∀ m s t, m < 2 ^ n → RS f n s t → RS f n (h m s) (h' m t)) {a : Int} (ha : 0 ≤ a ∧ a ≤ 3) : ∀ (b m : Nat) (s t : LS), m < 2 ^ n → RS f n s t → RS f n (turnsOf h a b m s) (turnsOf h' (f a) b m t)
  | 0, _, _, _, _, k => k
  | b + 1, m, s, t, hm, k => by
    simp only [turnsOf]
    rw [k.ones ha hm n8]
    have hlt := onesOf_lt hm n8 a s
    exact RS.turns n8 hf ha b _ _ _ hlt (hf _ _ _ hlt k)

/-! ### Lists of names -/


/-! ### Every place of a valid program has its stack of blocks -/
theorem pv_pre {l : List Cd} (h : pv l = true) (k : Nat) : ∃ s, pvRun [] (l.take k) = some s := by
  have hp := (pv_iff.1 h).2
  rw [← List.take_append_drop k l, pvRun_append] at hp
  cases hs : pvRun [] (l.take k) with
  | none => rw [hs] at hp; cases hp
  | some s => exact ⟨s, rfl⟩
theorem pv_step {l : List Cd} (h : pv l = true) {k : Nat} {x : Cd} (hx : l[k]? = some x) {s : List Int} (hs : pvRun [] (l.take k) = some s) : ∃ t, pvStep s x = some t := by
  obtain ⟨t, ht⟩ := pv_pre h (k + 1)
  obtain ⟨hk, rfl⟩ := List.getElem?_eq_some_iff.1 hx
  rw [List.take_succ_eq_append_getElem hk, pvRun_append, hs] at ht
  simp only [pvRun] at ht
  cases hq : pvStep s l[k] with
  | none => rw [hq] at ht; cases ht
  | some t => exact ⟨t, rfl⟩
theorem pinv_at {l : List Cd} (h : pv l = true) : ∀ k, k ≤ l.length → ∃ st oth en, PInv l k st oth en
  | 0, _ => ⟨_, _, _, PInv.start l⟩
  | k + 1, hk => by
    obtain ⟨st, oth, en, hP⟩ := pinv_at h k (by omega)
    have hx : l[k]? = some (cdAt l k) := by unfold cdAt; rw [List.getElem?_eq_getElem (by omega)]
    have hv : cvOk (cdAt l k) = true := pv_all h _ (List.mem_of_getElem? hx)
    obtain ⟨t, ht⟩ := pv_step h hx hP.pvs
    generalize cdAt l k = x at hx hv ht
    rcases pvStep_len ht with ⟨ho, he⟩ | ⟨ho, h12, hl, h0⟩ | ⟨ho, h14, hl⟩ | ⟨ho, h12, h14, he⟩
    · have h3 : st.length < 3 := by
        have ho' : x.op = 11 ∨ x.op = 13 := by simpa [opB] using ho
        rcases ho' with ho' | ho' <;> simp [pvStep, hv, ho'] at ht <;> exact ht.1
      exact ⟨_, _, _, hP.open_ hx hv ho h3⟩
    · cases st with
      | nil => simp at h0
      | cons p st =>
        have hm : mark l oth p = 11 := by
          simp [pvStep, hv, h12] at ht
          exact ht.1
        have h1 : (cdAt l p).op = 11 := by
          have := (hP.st_lt p (by simp)).2
          have ho' : (cdAt l p).op = 11 ∨ (cdAt l p).op = 13 := by simpa [opB] using this
          rcases ho' with h | h
          · exact h
          · simp [mark, h] at hm
        have h2 : oth p < 0 := by
          simp only [mark, h1] at hm
          split at hm
          · simp at *
          · split at hm
            · simp at hm
            · omega
        exact ⟨_, _, _, hP.els_ hx hv h12 h1 h2⟩
    · cases st with
      | nil => simp at hl
      | cons p st => exact ⟨_, _, _, hP.end_ hx hv h14⟩
    · exact ⟨_, _, _, hP.same_ hx hv ho h12 h14⟩

theorem cdAt_op (l : List Cd) (k : Nat) : (cdAt l k).op = opAt l k := by
  unfold cdAt opAt
  cases l[k]? <;> rfl
/-- An else or an end has its opening. -/
theorem around_in {l : List Cd} (h : pv l = true) {k : Nat} {x : Cd} (hx : l[k]? = some x) (ho : x.op = 12 ∨ x.op = 14) :
    aroundOf l k = (aroundN l k : Int) ∧ aroundN l k < k ∧ opB (cdAt l (aroundN l k)) = true := by
  have hk : k < l.length := (List.getElem?_eq_some_iff.1 hx).1
  obtain ⟨st, oth, en, hP⟩ := pinv_at h k (by omega)
  obtain ⟨t, ht⟩ := pv_step h hx hP.pvs
  have hv : cvOk x = true := pv_all h _ (List.mem_of_getElem? hx)
  cases st with
  | nil => rcases ho with ho | ho <;> simp [pvStep, hv, ho] at ht
  | cons p st =>
    have ha := hP.aro 0
    simp at ha
    have e : aroundN l k = p := by simp [aroundN, aroundOf, ha]
    have := hP.st_lt p (by simp)
    rw [e]
    exact ⟨ha, this.1, this.2⟩

theorem scanE_else_bound : ∀ (r : List Cd) (k d : Nat) (o : Int), (scanE r k d o).2 = o ∨ ∃ j : Nat, (scanE r k d o).2 = (j : Int) ∧ k ≤ j ∧ j < k + r.length
  | [], k, d, o => .inl rfl
  | x :: r, k, d, o => by
    have up : ∀ {k : Nat} {v : Int}, (∃ j : Nat, v = (j : Int) ∧ k + 1 ≤ j ∧ j < k + 1 + r.length) → ∃ j : Nat, v = (j : Int) ∧ k ≤ j ∧ j < k + (x :: r).length := by
      rintro k v ⟨j, h1, h2, h3⟩
      exact ⟨j, h1, by omega, by simp; omega⟩
    unfold scanE
    split
    · exact (scanE_else_bound r (k + 1) (d + 1) o).imp id up
    split
    · rcases scanE_else_bound r (k + 1) d k with h | h
      · exact .inr ⟨k, h, Nat.le_refl _, by simp⟩
      · exact .inr (up h)
    split
    · exact .inl rfl
    split
    · exact (scanE_else_bound r (k + 1) (d - 1) o).imp id up
    · exact (scanE_else_bound r (k + 1) d o).imp id up
theorem elseAt_lt {l : List Cd} {k : Nat} (hk : k < l.length) : elseAt l k = -1 ∨ ∃ j : Nat, elseAt l k = (j : Int) ∧ k < j ∧ j < l.length := by
  rcases scanE_else_bound (l.drop (k + 1)) (k + 1) 0 (-1) with h | ⟨j, h1, h2, h3⟩
  · exact .inl h
  · refine .inr ⟨j, h1, by omega, ?_⟩
    simp at h3
    omega
theorem overN_le {l : List Cd} (h : pv l = true) {k : Nat} {x : Cd} (hx : l[k]? = some x) (ho : opB x = true) : overN l k ≤ l.length := by
  have hk : k < l.length := (List.getElem?_eq_some_iff.1 hx).1
  obtain ⟨_, _, h3⟩ := pEnd_bound h hx ho
  unfold overN
  split
  · rename_i h0
    rcases elseAt_lt hk with h | ⟨j, h1, _, h2⟩
    · omega
    · rw [h1]; omega
  · show pEnd l k + 1 ≤ _
    omega

/-! ### The least solution -/
theorem fold_or_sub {s t : Nat → Nat} (h : ∀ k, sub (s k) (t k)) : ∀ (L : List Nat) (a b : Nat), sub a b → sub (L.foldl (fun m t => m ||| s t) a) (L.foldl (fun m k => m ||| t k) b)
  | [], _, _, hab => hab
  | x :: L, a, b, hab => fold_or_sub h L _ _ (sub_or hab (h x))
theorem outSet_mono {s t : Nat → Nat} (h : ∀ k, sub (s k) (t k)) (l : List Cd) (k : Nat) : sub (outSet l s k) (outSet l t k) := fold_or_sub h _ _ _ (sub.refl 0)
theorem liveAt_mono {s t : Nat → Nat} (h : ∀ k, sub (s k) (t k)) (l : List Cd) (k : Nat) : sub (liveAt l s k) (liveAt l t k) :=
  sub_or (sub_or (sub_mdiff (outSet_mono h l k) _) (sub.refl _)) (sub.refl _)
theorem fold_or_lt {s : Nat → Nat} (h : ∀ k, s k < 16) : ∀ (L : List Nat) (a : Nat), a < 16 → L.foldl (fun m t => m ||| s t) a < 16
  | [], _, ha => ha
  | x :: L, a, ha => fold_or_lt h L _ (Nat.or_lt_two_pow (n := 4) ha (h x))
theorem outSet_lt {s : Nat → Nat} (h : ∀ k, s k < 16) (l : List Cd) (k : Nat) : outSet l s k < 16 := fold_or_lt h _ _ (by decide)
theorem loopSet_lt {l : List Cd} (h : pv l = true) (k : Nat) (hk : k < l.length) : loopSet l k < 16 := by
  unfold loopSet
  split
  · rename_i ho
    simp only [Bool.and_eq_true] at ho
    have hx : l[k]? = some (cdAt l k) := by unfold cdAt; rw [List.getElem?_eq_getElem hk]
    have ha := around_in h hx (.inr (by rw [cdAt_op]; exact beq_iff_eq.1 ho.1))
    have hy : l[aroundN l k]? = some (cdAt l (aroundN l k)) := by unfold cdAt; rw [List.getElem?_eq_getElem (by omega)]
    have hv := pv_all h _ (List.mem_of_getElem? hy)
    have := cvOk_a hv
    exact Nat.pow_lt_pow_right (a := 2) (n := 4) (by decide) (by omega)
  · decide
theorem liveAt_lt {l : List Cd} (h : pv l = true) {s : Nat → Nat} (hs : ∀ k, s k < 16) (k : Nat) (hk : k < l.length) : liveAt l s k < 16 :=
  Nat.or_lt_two_pow (n := 4) (Nat.or_lt_two_pow (n := 4) (mdiff_lt (outSet_lt hs l k)) (reads_lt _)) (loopSet_lt h k hk)

structure LInv (l : List Cd) (s : Nat → Nat) : Prop where
  pre : ∀ k, k < l.length → sub (s k) (liveAt l s k)
  out : ∀ k, l.length ≤ k → s k = 0
  low : ∀ t : Nat → Nat, (∀ k, k < l.length → sub (liveAt l t k) (t k)) → ∀ k, sub (s k) (t k)
  b16 : ∀ k, s k < 16
theorem LInv.start (l : List Cd) : LInv l (fun _ => 0) :=
  ⟨fun k _ => sub_zero _, fun _ _ => rfl, fun _ _ _ => sub_zero _, fun _ => by decide⟩
theorem upd_up {s : Nat → Nat} {k v : Nat} (h : sub (s k) v) : ∀ j, sub (s j) (upd s k v j) := by
  intro j
  unfold upd
  split
  · rename_i e; subst e; exact h
  · exact sub.refl _
theorem LInv.step {l : List Cd} {s : Nat → Nat} (h : LInv l s) (hp : pv l = true) {k : Nat} (hk : k < l.length) : LInv l (upd s k (liveAt l s k)) := by
  have hu := upd_up (h.pre k hk)
  refine ⟨fun j hj => ?_, fun j hj => ?_, fun t ht j => ?_, fun j => ?_⟩
  · have := liveAt_mono hu l j
    show sub (upd s k (liveAt l s k) j) _
    unfold upd at this ⊢
    split
    · rename_i e; subst e; exact this
    · exact (h.pre j hj).trans this
  · unfold upd
    rw [if_neg (by omega)]
    exact h.out j hj
  · unfold upd
    split
    · rename_i e; subst e; exact (liveAt_mono (h.low t ht) l j).trans (ht j hk)
    · exact h.low t ht j
  · unfold upd
    split
    · exact liveAt_lt hp h.b16 k hk
    · exact h.b16 j
def Fix (l : List Cd) (s : Nat → Nat) : Prop := LInv l s ∧ ∀ k, k < l.length → s k = liveAt l s k
noncomputable def liveFix (l : List Cd) : Nat → Nat := Classical.epsilon (Fix l)
theorem Fix.eq {l : List Cd} {s : Nat → Nat} (h : Fix l s) : s = liveFix l := by
  have h2 : Fix l (liveFix l) := Classical.epsilon_spec ⟨s, h⟩
  funext k
  refine (h.1.low _ (fun j hj => ?_) k).antisymm (h2.1.low _ (fun j hj => ?_) k)
  · rw [← h2.2 j hj]; exact sub.refl _
  · rw [← h.2 j hj]; exact sub.refl _

def sumN (s : Nat → Nat) : Nat → Nat
  | 0 => 0
  | n + 1 => sumN s n + s n
theorem sumN_upd (s : Nat → Nat) (k v : Nat) : ∀ n, sumN (upd s k v) n + (if k < n then s k else 0) = sumN s n + (if k < n then v else 0)
  | 0 => by simp [sumN]
  | n + 1 => by
    have ih := sumN_upd s k v n
    simp only [sumN]
    by_cases e : k = n
    · subst e
      rw [if_neg (by omega), if_neg (by omega)] at ih
      rw [if_pos (by omega), if_pos (by omega)]
      simp [upd]
      omega
    · have hu : upd s k v n = s n := by unfold upd; rw [if_neg (fun h => e h.symm)]
      rw [hu]
      by_cases h : k < n
      · rw [if_pos h, if_pos h] at ih
        rw [if_pos (by omega), if_pos (by omega)]
        omega
      · rw [if_neg h, if_neg h] at ih
        rw [if_neg (by omega), if_neg (by omega)]
        omega
theorem upd_same {s : Nat → Nat} {k v : Nat} (h : v = s k) : upd s k v = s := by
  funext j
  unfold upd
  split
  · rename_i e; subst e; exact h
  · rfl
/-- Within a pass, at place k: what has changed since the pass began with s0. -/
def Mid (l : List Cd) (s0 s : Nat → Nat) (k : Nat) (ch : Bool) : Prop :=
  LInv l s ∧ (ch = false → s = s0 ∧ ∀ j, k ≤ j → j < l.length → s j = liveAt l s j) ∧ (ch = true → sumN s0 l.length < sumN s l.length)
theorem Mid.start {l : List Cd} {s : Nat → Nat} (h : LInv l s) : Mid l s s l.length false := ⟨h, fun _ => ⟨rfl, fun j h1 h2 => by omega⟩, fun h => by cases h⟩
theorem Mid.step {l : List Cd} (hp : pv l = true) {s0 s : Nat → Nat} {k : Nat} {ch : Bool} (h : Mid l s0 s (k + 1) ch) (hk : k < l.length) :
    Mid l s0 (upd s k (liveAt l s k)) k (ch || !((liveAt l s k : Int) == (s k : Int))) := by
  obtain ⟨h1, h2, h3⟩ := h
  have hle : s k ≤ liveAt l s k := (h1.pre k hk).le
  have hsum := sumN_upd s k (liveAt l s k) l.length
  rw [if_pos hk, if_pos hk] at hsum
  refine ⟨h1.step hp hk, fun hc => ?_, fun hc => ?_⟩
  · simp only [Bool.or_eq_false_iff] at hc
    obtain ⟨hc1, hc2⟩ := hc
    have he : liveAt l s k = s k := by
      simp at hc2
      omega
    rw [upd_same he]
    refine ⟨(h2 hc1).1, fun j hj1 hj2 => ?_⟩
    by_cases e : j = k
    · subst e; exact he.symm
    · exact (h2 hc1).2 j (by omega) hj2
  · cases hch : ch with
    | true =>
      have := h3 hch
      omega
    | false =>
      rw [hch] at hc
      simp only [Bool.false_or, Bool.not_eq_true', beq_eq_false_iff_ne] at hc
      have hs := (h2 hch).1
      rw [← hs]
      omega
theorem Mid.done {l : List Cd} {s0 s : Nat → Nat} (h : Mid l s0 s 0 false) : s = liveFix l := Fix.eq ⟨h.1, fun k hk => (h.2.1 rfl).2 k (Nat.zero_le _) hk⟩

/-! ### There is a least solution -/

/-! ### What is dropped -/


/-! ### One lane -/
/-- The registers of a lane are the same in a set. -/
def Ag (S : Nat) (r r' : List Int) : Prop := r.length = 4 ∧ r'.length = 4 ∧ ∀ i : Int, 0 ≤ i → i ≤ 3 → S.testBit i.toNat = true → rg r i = rg r' i
theorem Ag.mono {S S' : Nat} {r r' : List Int} (h : Ag S r r') (hs : sub S' S) : Ag S' r r' := ⟨h.1, h.2.1, fun i i0 i3 hi => h.2.2 i i0 i3 (hs _ hi)⟩
theorem Ag.setr {S S' : Nat} {r r' : List Int} (h : Ag S r r') {a : Int} (ha : 0 ≤ a ∧ a ≤ 3) (hs : sub (mdiff S' (2 ^ a.toNat)) S) (v : Int) : Ag S' (r.set a.toNat v) (r'.set a.toNat v) := by
  refine ⟨by simp [h.1], by simp [h.2.1], fun i i0 i3 hi => ?_⟩
  rw [rg_set r a i v h.1 ha ⟨i0, i3⟩, rg_set r' a i v h.2.1 ha ⟨i0, i3⟩]
  by_cases e : i = a
  · rw [if_pos e, if_pos e]
  · rw [if_neg e, if_neg e]
    refine h.2.2 i i0 i3 (hs _ ?_)
    rw [testBit_mdiff, hi, Nat.testBit_two_pow_of_ne (by omega)]; rfl
theorem bit_sub {a : Int} {S : Nat} (h : sub (2 ^ a.toNat) S) : S.testBit a.toNat = true := h _ (Nat.testBit_two_pow_self)
theorem simp1_ag {x : Cd} (hv : cvOk x = true) (h10 : x.op ≤ 10) (id : Nat) {S S' : Nat} {r r' m : List Int} (h : Ag S r r') (h1 : sub (reads x) S) (h2 : sub (mdiff S' (wset x)) S) :
    Ag S' (simp1 x id r m).1 (simp1 x id r' m).1 ∧ (simp1 x id r' m).2 = (simp1 x id r m).2 ∧ (x.op = 8 ∨ x.op = 9 → rg r' x.b = rg r x.b) := by
  have ha := cvOk_a hv
  have hc := cvOk_c hv
  have hb2 := cvOk_b2 hv
  have ho := op14' hv h10
  obtain ⟨o, a, b, c⟩ := x
  simp only at ha hc hb2 ho
  have S2 := fun v => h.setr (S' := S') ha (v := v)
  rcases ho with rfl | rfl | rfl | rfl | rfl | rfl | rfl | rfl | rfl | rfl
  · simp [wset, hv, inR] at h2
    exact ⟨S2 b h2, rfl, by simp⟩
  · simp [wset, hv, inR] at h2
    exact ⟨S2 id h2, rfl, by simp⟩
  · have hb := hb2 (by omega)
    simp [wset, hv, inR] at h2
    simp [reads, hv] at h1
    have ga := h.2.2 a ha.1 ha.2 (bit_sub ((sub_or_left _ _).trans h1))
    have gb := h.2.2 b hb.1 hb.2 (bit_sub ((sub_or_right _ _).trans h1))
    refine ⟨?_, rfl, by simp⟩
    show Ag S' (r.set a.toNat ((rg r a + rg r b) % 256)) (r'.set a.toNat ((rg r' a + rg r' b) % 256))
    rw [← ga, ← gb]; exact S2 _ h2
  · have hb := hb2 (by omega)
    simp [wset, hv, inR] at h2
    simp [reads, hv] at h1
    have ga := h.2.2 a ha.1 ha.2 (bit_sub ((sub_or_left _ _).trans h1))
    have gb := h.2.2 b hb.1 hb.2 (bit_sub ((sub_or_right _ _).trans h1))
    refine ⟨?_, rfl, by simp⟩
    show Ag S' (r.set a.toNat (rg r a * rg r b % 256)) (r'.set a.toNat (rg r' a * rg r' b % 256))
    rw [← ga, ← gb]; exact S2 _ h2
  · have hb := hb2 (by omega)
    simp [wset, hv, inR] at h2
    simp [reads, hv] at h1
    have gb := h.2.2 b hb.1 hb.2 (bit_sub h1)
    refine ⟨?_, rfl, by simp⟩
    show Ag S' (r.set a.toNat (rg r b)) (r'.set a.toNat (rg r' b))
    rw [← gb]; exact S2 _ h2
  · have hb := hb2 (by omega)
    simp [wset, hv, inR] at h2
    simp [reads, hv] at h1
    have gb := h.2.2 b hb.1 hb.2 (bit_sub ((sub_or_left _ _).trans h1))
    have gc := h.2.2 c hc.1 hc.2 (bit_sub ((sub_or_right _ _).trans h1))
    refine ⟨?_, rfl, by simp⟩
    show Ag S' (r.set a.toNat (lessI (rg r b) (rg r c))) (r'.set a.toNat (lessI (rg r' b) (rg r' c)))
    rw [← gb, ← gc]; exact S2 _ h2
  · have hb := hb2 (by omega)
    simp [wset, hv, inR] at h2
    simp [reads, hv] at h1
    have ga' : S.testBit a.toNat = true := bit_sub (((sub_or_left _ _).trans (sub_or_left _ _)).trans h1)
    have ga := h.2.2 a ha.1 ha.2 ga'
    have gb := h.2.2 b hb.1 hb.2 (bit_sub (((sub_or_right _ _).trans (sub_or_left _ _)).trans h1))
    have gc := h.2.2 c hc.1 hc.2 (bit_sub ((sub_or_right _ _).trans h1))
    refine ⟨?_, rfl, by simp⟩
    show Ag S' (if rg r c == 0 then r else r.set a.toNat (rg r b)) (if rg r' c == 0 then r' else r'.set a.toNat (rg r' b))
    rw [← gb, ← gc]
    cases rg r c == 0
    · exact S2 _ h2
    · refine h.mono fun i hi => ?_
      by_cases e : i = a.toNat
      · rw [e]; exact ga'
      · refine h2 _ ?_
        rw [testBit_mdiff, hi, Nat.testBit_two_pow_of_ne (by omega)]; rfl
  · have hb := hb2 (by omega)
    simp [wset, hv, inR] at h2
    simp [reads, hv] at h1
    have gb := h.2.2 b hb.1 hb.2 (bit_sub h1)
    refine ⟨?_, rfl, fun _ => gb.symm⟩
    show Ag S' (r.set a.toNat (m.getD (rg r b % m.length).toNat 0)) (r'.set a.toNat (m.getD (rg r' b % m.length).toNat 0))
    rw [← gb]; exact S2 _ h2
  · have hb := hb2 (by omega)
    simp [wset, inR] at h2
    simp [reads, hv] at h1
    rw [mdiff_zero'] at h2
    have ga := h.2.2 a ha.1 ha.2 (bit_sub ((sub_or_left _ _).trans h1))
    have gb := h.2.2 b hb.1 hb.2 (bit_sub ((sub_or_right _ _).trans h1))
    refine ⟨h.mono h2, ?_, fun _ => gb.symm⟩
    show m.set (rg r' b % m.length).toNat (rg r' a) = m.set (rg r b % m.length).toNat (rg r a)
    rw [ga, gb]
  · simp [wset, inR] at h2
    rw [mdiff_zero'] at h2
    exact ⟨h.mono h2, rfl, by simp⟩

/-! ### All lanes -/
structure LR (n : Nat) (L : Nat → Nat) (g h : GS) : Prop where
  lg : g.s.regs.length = n
  lh : h.s.regs.length = n
  ag : ∀ k, k < n → Ag (L k) (g.s.regs.getD k []) (h.s.regs.getD k [])
  mem : h.s.mem = g.s.mem
  ph : h.s.phase = g.s.phase
  wr : h.s.accs.filter (fun q => q.wr) = g.s.accs.filter (fun q => q.wr)
  al : h.s.accs.Sublist g.s.accs
  br : barr h.ev = barr g.ev
  el : h.ev.length ≤ g.ev.length
theorem LR.mono {n : Nat} {L L' : Nat → Nat} {g h : GS} (k : LR n L g h) (hs : ∀ j, j < n → sub (L' j) (L j)) : LR n L' g h :=
  ⟨k.lg, k.lh, fun j hj => (k.ag j hj).mono (hs j hj), k.mem, k.ph, k.wr, k.al, k.br, k.el⟩
theorem barr_snoc (ev : List (Cd × Nat)) (x : Cd) (m : Nat) : barr (ev ++ [(x, m)]) = barr ev ++ (if x.op == 10 then [(x, m)] else []) := by
  simp only [barr, List.filter_append, List.filter_cons, List.filter_nil]
theorem LR.on {n : Nat} {L : Nat → Nat} {g h : GS} (k : LR n L g h) (x : Cd) (m : Nat) : LR n L (g.on x m) (h.on x m) :=
  ⟨k.lg, k.lh, k.ag, k.mem, k.ph, k.wr, k.al, by show barr (h.ev ++ _) = barr (g.ev ++ _); rw [barr_snoc, barr_snoc, k.br], by have := k.el; show (h.ev ++ _).length ≤ (g.ev ++ _).length; simp; exact this⟩
theorem LR.ones {n : Nat} (n8 : n ≤ 8) {L : Nat → Nat} {g h : GS} (k : LR n L g h) {a : Int} (ha : 0 ≤ a ∧ a ≤ 3) {m : Nat} (hm : m < 2 ^ n) (hL : ∀ j, j < n → m.testBit j = true → (L j).testBit a.toNat = true) : onesOf m a h.s = onesOf m a g.s := by
  have m8 : m < 2 ^ 8 := Nat.lt_of_lt_of_le hm (Nat.pow_le_pow_right (by decide) n8)
  apply Nat.eq_of_testBit_eq
  intro i
  rw [onesOf_bit _ _ _ _ m8, onesOf_bit _ _ _ _ m8]
  cases hb : m.testBit i with
  | false => rfl
  | true =>
    have hi : i < n := by
      refine Nat.lt_of_not_le fun h => ?_
      rw [testBit_high hm h] at hb; cases hb
    have := (k.ag i hi).2.2 a ha.1 ha.2 (hL i hi hb)
    simp only [LS.reg, this]
theorem getD_set_ne {l : List (List Int)} {k j : Nat} (v : List Int) (h : j ≠ k) : (l.set k v).getD j [] = l.getD j [] := by
  rw [List.getD_eq_getElem?_getD, List.getD_eq_getElem?_getD, List.getElem?_set_ne (fun e => h e.symm)]
/-- The relation without the events. -/
structure LQ (n : Nat) (L : Nat → Nat) (s t : LS) : Prop where
  lg : s.regs.length = n
  lh : t.regs.length = n
  ag : ∀ k, k < n → Ag (L k) (s.regs.getD k []) (t.regs.getD k [])
  mem : t.mem = s.mem
  ph : t.phase = s.phase
  wr : t.accs.filter (fun q => q.wr) = s.accs.filter (fun q => q.wr)
  al : t.accs.Sublist s.accs
theorem LR.q {n : Nat} {L : Nat → Nat} {g h : GS} (k : LR n L g h) : LQ n L g.s h.s := ⟨k.lg, k.lh, k.ag, k.mem, k.ph, k.wr, k.al⟩
theorem LQ.r {n : Nat} {L : Nat → Nat} {s t : LS} (k : LQ n L s t) {e f : List (Cd × Nat)} (hb : barr f = barr e) (hl : f.length ≤ e.length) : LR n L ⟨s, e⟩ ⟨t, f⟩ := ⟨k.lg, k.lh, k.ag, k.mem, k.ph, k.wr, k.al, hb, hl⟩
theorem LQ.mono {n : Nat} {L L' : Nat → Nat} {g h : LS} (k : LQ n L g h) (hs : ∀ j, j < n → sub (L' j) (L j)) : LQ n L' g h :=
  ⟨k.lg, k.lh, fun j hj => (k.ag j hj).mono (hs j hj), k.mem, k.ph, k.wr, k.al⟩
theorem LQ.exec1 {n : Nat} {L : Nat → Nat} {s t : LS} (k : LQ n L s t) {x : Cd} (hv : cvOk x = true) (h10 : x.op ≤ 10) {S S' : Nat} {j : Nat} (hj : j < n) (hL : L j = S) (h1 : sub (reads x) S) (h2 : sub (mdiff S' (wset x)) S) :
    LQ n (fun i => if i = j then S' else L i) (exec1 x s j) (exec1 x t j) := by
  obtain ⟨e1, e2, e3⟩ := simp1_ag hv h10 j (m := s.mem) (hL ▸ k.ag j hj) h1 h2
  refine ⟨by simp [Proofs.YtelbfeidpcojmaaGreat.exec1, k.lg], by simp [Proofs.YtelbfeidpcojmaaGreat.exec1, k.lh], fun i hi => ?_, by simp only [Proofs.YtelbfeidpcojmaaGreat.exec1, k.mem]; exact e2, k.ph, ?_, ?_⟩
  · simp only [Proofs.YtelbfeidpcojmaaGreat.exec1, k.mem]
    by_cases e : i = j
    · subst e
      rw [if_pos rfl, getD_set_list _ (by rw [k.lg]; exact hi), getD_set_list _ (by rw [k.lh]; exact hi), if_pos rfl, if_pos rfl]
      exact e1
    · rw [if_neg e, getD_set_ne _ e, getD_set_ne _ e]
      exact k.ag i hi
  · simp only [Proofs.YtelbfeidpcojmaaGreat.exec1]
    by_cases hm : memOp x = true
    · rw [if_pos hm, if_pos hm, List.filter_append, List.filter_append, k.wr]
      congr 1
      by_cases h9 : x.op = 9
      · simp only [LS.reg, e3 (.inr h9), k.mem, k.ph]
      · have : (x.op == 9) = false := beq_eq_false_iff_ne.2 h9
        simp [this]
    · rw [if_neg hm, if_neg hm]; exact k.wr
  · simp only [Proofs.YtelbfeidpcojmaaGreat.exec1]
    have := k.al
    by_cases hm : memOp x = true
    · rw [if_pos hm, if_pos hm]
      have h89 : x.op = 8 ∨ x.op = 9 := by simpa [memOp] using hm
      have hr : t.reg j x.b = s.reg j x.b := e3 h89
      rw [hr, k.mem, k.ph]
      exact this.append (List.Sublist.refl _)
    · rw [if_neg hm, if_neg hm]; exact this
theorem LQ.execTo {n : Nat} {L : Nat → Nat} {s t : LS} (k : LQ n L s t) {x : Cd} (hv : cvOk x = true) (h10 : x.op ≤ 10) {S S' m : Nat} (hL : ∀ j, j < n → m.testBit j = true → L j = S) (h1 : sub (reads x) S) (h2 : sub (mdiff S' (wset x)) S) :
    ∀ j, j ≤ n → LQ n (fun i => if m.testBit i = true ∧ i < j then S' else L i) (execTo x m s j) (execTo x m t j)
  | 0, _ => by simpa [Proofs.YtelbfeidpcojmaaGreat.execTo] using k
  | j + 1, hj => by
    have ih := LQ.execTo k hv h10 hL h1 h2 j (by omega)
    simp only [Proofs.YtelbfeidpcojmaaGreat.execTo]
    cases hb : m.testBit j with
    | true =>
      have hLj := hL j (by omega) hb
      simp only [if_true]
      refine (ih.exec1 hv h10 (S := S) (S' := S') (j := j) (by omega) (by simp [hLj]) h1 h2).mono fun i hi => ?_
      by_cases e : i = j
      · subst e; simp [hb]; exact sub.refl _
      · rw [if_neg e]
        have : (i < j + 1) = (i < j) := by simp; omega
        simp only [this]; exact sub.refl _
    | false =>
      simp only [Bool.false_eq_true, if_false]
      refine ih.mono fun i hi => ?_
      by_cases e : i = j
      · subst e; simp [hb]; exact sub.refl _
      · have : (i < j + 1) = (i < j) := by simp; omega
        simp only [this]; exact sub.refl _
theorem LQ.execM {n : Nat} (n8 : n ≤ 8) {L : Nat → Nat} {s t : LS} (k : LQ n L s t) {x : Cd} (hv : cvOk x = true) (h10 : x.op ≤ 10) {S S' m : Nat} (hm : m < 2 ^ n) (hL : ∀ j, j < n → m.testBit j = true → L j = S) (h1 : sub (reads x) S) (h2 : sub (mdiff S' (wset x)) S) :
    LQ n (fun i => if m.testBit i = true then S' else L i) (execM x m s) (execM x m t) := by
  rw [execM_eq hm n8, execM_eq hm n8]
  have := (k.execTo hv h10 hL h1 h2 n (Nat.le_refl _)).mono (L' := fun i => if m.testBit i = true then S' else L i) (fun i hi => by simp [hi]; exact sub.refl _)
  split
  · exact ⟨this.lg, this.lh, this.ag, this.mem, by simp [this.ph], this.wr, this.al⟩
  · exact this

/-! ### The sets at the places of a tree -/
section
variable {l : List Cd} {s : Nat → Nat}
theorem around_tree {q d : Nat} {x : Cd} {t : Blk} {r : List Cd} (ht : t.ok d) (ho : opB x = true) (h : l.drop q = x :: (t.flat ++ r)) : aroundN l (q + t.flat.length + 1) = q := by
  obtain ⟨h1, h2, h3⟩ := drop_cons h
  have e0 : l = (l.take q ++ [x]) ++ (t.flat ++ r) := by
    conv => lhs; rw [← List.take_append_drop q l, h]
    simp
  have hl : (l.take q ++ [x]).length = q + 1 := by simp [List.length_take]; omega
  have := scanA_flat t d (l.take q ++ [x]) r 0 ht
  rw [← e0, hl] at this
  unfold aroundN aroundOf
  rw [show q + t.flat.length + 1 = q + 1 + t.flat.length by omega, this, scanA_step l q 0 x h1, if_pos ho]
  rfl
theorem opAt_drop {q : Nat} {x : Cd} {r : List Cd} (h : l.drop q = x :: r) : opAt l q = x.op := opAt_get (drop_cons h).1
end

/-! ### Dropping in a tree -/

/-! ### Dropping in a list -/

/-! ### Runs -/
/-- The second program leads to the same memory, with the same writes, in no more steps. -/
structure Less (n : Nat) (m : List Int) (l l' : List Cd) : Prop where
  ok : pv l' = true
  mem : (lockS l' n m).mem = (lockS l n m).mem
  spl : splitB l' n (lockS l' n m).beats = splitB l n (lockS l n m).beats
  wr : (lockS l' n m).accs.filter (fun q => q.wr) = (lockS l n m).accs.filter (fun q => q.wr)
  al : (lockS l' n m).accs.Sublist (lockS l n m).accs
  bl : (lockS l' n m).beats.length ≤ (lockS l n m).beats.length
  len : l'.length ≤ l.length
theorem Less.refl {n : Nat} {m : List Int} {l : List Cd} (h : pv l = true) : Less n m l l := ⟨h, rfl, rfl, rfl, List.Sublist.refl _, Nat.le_refl _, Nat.le_refl _⟩
theorem Less.trans {n : Nat} {m : List Int} {l l' l'' : List Cd} (h : Less n m l l') (k : Less n m l' l'') : Less n m l l'' :=
  ⟨k.ok, k.mem.trans h.mem, k.spl.trans h.spl, k.wr.trans h.wr, k.al.trans h.al, Nat.le_trans k.bl h.bl, Nat.le_trans k.len h.len⟩
/-! ### What stays -/


/-! ### Lanes of a mask -/

/-! ### Programs without blocks -/


theorem scanA_nb {l : List Cd} {n d : Nat} {x : Cd} (h : l[n]? = some x) (h1 : opB x = false) (h2 : x.op ≠ 14) : scanA l (n + 1) d = scanA l n d := by
  have e : (x.op == 14) = false := beq_eq_false_iff_ne.2 h2
  rw [scanA_step l n d x h, h1, e]; rfl
theorem scanA_drop {b : Blk} {d : Nat} (hb : b.ok d) {l rest : List Cd} {p : Nat} (h : l.drop p = b.flat ++ rest) (hp : p ≤ l.length) : scanA l (p + b.flat.length) 0 = scanA l p 0 := by
  have e : l = l.take p ++ (b.flat ++ rest) := by rw [← h, List.take_append_drop]
  have hl : (l.take p).length = p := by simp [List.length_take]; omega
  have := scanA_flat b d (l.take p) rest 0 hb
  rw [← e, hl] at this
  exact this

/-! ### Barriers -/
/-- All barriers are in no block. -/
def flatP (l : List Cd) : Prop := ∀ k, k < l.length → (cdAt l k).op = 10 → aroundOf l k = -1
instance (l : List Cd) : Decidable (flatP l) := inferInstanceAs (Decidable (∀ k, k < l.length → (cdAt l k).op = 10 → aroundOf l k = -1))

end Go.Proofs.YtelbfeidpcojmaaGreat
