/- Lockstep on trees: plain Lean, no program in sight. -/
import Derived.Test.YtfgbbajkdpideaaSyn
namespace Go.Proofs.Ytfgbbajkdpideaa
set_option linter.unusedVariables false
set_option linter.unusedSimpArgs false

theorem op14' {x : Cd} (h : cvOk x = true) (h10 : x.op ≤ 10) : x.op = 1 ∨ x.op = 2 ∨ x.op = 3 ∨ x.op = 4 ∨ x.op = 5 ∨ x.op = 6 ∨ x.op = 7 ∨ x.op = 8 ∨ x.op = 9 ∨ x.op = 10 := by
  have := cvOk_op h; omega

def wordsOk (r : List Int) : Prop := ∀ v ∈ r, 0 ≤ v ∧ v ≤ 255
def rg (r : List Int) (i : Int) : Int := r.getD i.toNat 0
def lessI (a b : Int) : Int := if a < b then 1 else 0
/-- One instruction that is not part of the structure, on the registers of a lane and the memory. -/
def simp1 (x : Cd) (id : Nat) (r m : List Int) : List Int × List Int :=
  if x.op == 1 then (r.set x.a.toNat x.b, m)
  else if x.op == 2 then (r.set x.a.toNat id, m)
  else if x.op == 3 then (r.set x.a.toNat ((rg r x.a + rg r x.b) % 256), m)
  else if x.op == 4 then (r.set x.a.toNat (rg r x.a * rg r x.b % 256), m)
  else if x.op == 5 then (r.set x.a.toNat (rg r x.b), m)
  else if x.op == 6 then (r.set x.a.toNat (lessI (rg r x.b) (rg r x.c)), m)
  else if x.op == 7 then (if rg r x.c == 0 then r else r.set x.a.toNat (rg r x.b), m)
  else if x.op == 8 then (r.set x.a.toNat (m.getD (rg r x.b % m.length).toNat 0), m)
  else if x.op == 9 then (r, m.set (rg r x.b % m.length).toNat (rg r x.a))
  else (r, m)

theorem rg_word {r : List Int} (h : wordsOk r) (i : Int) : 0 ≤ rg r i ∧ rg r i ≤ 255 := by
  unfold rg
  rw [List.getD_eq_getElem?_getD]
  cases hx : r[i.toNat]? with
  | none => simp
  | some v => exact h v (List.mem_of_getElem? hx)
theorem getD_word {r : List Int} (h : wordsOk r) (i : Nat) : 0 ≤ r.getD i 0 ∧ r.getD i 0 ≤ 255 := by
  rw [List.getD_eq_getElem?_getD]
  cases hx : r[i]? with
  | none => simp
  | some v => exact h v (List.mem_of_getElem? hx)
theorem words_set {r : List Int} (h : wordsOk r) (i : Nat) {v : Int} (hv : 0 ≤ v ∧ v ≤ 255) : wordsOk (r.set i v) := by
  intro u hu
  rcases List.mem_or_eq_of_mem_set hu with hu | rfl
  · exact h u hu
  · exact hv
theorem simp1_len (x : Cd) (id : Nat) (r m : List Int) : (simp1 x id r m).1.length = r.length ∧ (simp1 x id r m).2.length = m.length := by
  unfold simp1
  repeat' split
  all_goals simp
theorem simp1_words {x : Cd} {id : Nat} {r m : List Int} (hv : cvOk x = true) (hid : id ≤ 255) (hr : wordsOk r) (hm : wordsOk m) : wordsOk (simp1 x id r m).1 ∧ wordsOk (simp1 x id r m).2 := by
  have hb := cvOk_b hv
  have ra := rg_word hr x.a
  have rb := rg_word hr x.b
  have rc := rg_word hr x.c
  have gm := getD_word hm (rg r x.b % m.length).toNat
  unfold simp1
  split
  · exact ⟨words_set hr _ hb, hm⟩
  split
  · exact ⟨words_set hr _ (by omega), hm⟩
  split
  · exact ⟨words_set hr _ (by omega), hm⟩
  split
  · exact ⟨words_set hr _ ⟨Int.emod_nonneg _ (by omega), by have := Int.emod_lt_of_pos (rg r x.a * rg r x.b) (show (0 : Int) < 256 by omega); omega⟩, hm⟩
  split
  · exact ⟨words_set hr _ rb, hm⟩
  split
  · exact ⟨words_set hr _ (by unfold lessI; split <;> omega), hm⟩
  split
  · refine ⟨?_, hm⟩
    dsimp only
    split
    · exact hr
    · exact words_set hr _ rb
  split
  · exact ⟨words_set hr _ gm, hm⟩
  split
  · exact ⟨hr, words_set hm _ ra⟩
  · exact ⟨hr, hm⟩

/-- An access to the memory. -/
structure Acc where
  who : Nat
  cell : Nat
  wr : Bool
  ph : Nat
  deriving DecidableEq

/-- The state of lanes in lockstep. -/
structure LS where
  regs : List (List Int)
  mem : List Int
  beats : List (Nat × Nat)
  accs : List Acc
  phase : Nat

def lanesOf (m : Nat) : List Nat := (List.range 8).filter fun k => m.testBit k
def LS.reg (s : LS) (k : Nat) (r : Int) : Int := rg (s.regs.getD k []) r
def beat (p m : Nat) (s : LS) : LS := { s with beats := s.beats ++ [(p, m)] }
/-- The lanes of a mask whose register is not 0. -/
def onesOf (m : Nat) (r : Int) (s : LS) : Nat := (lanesOf m).foldl (fun out k => if s.reg k r == 0 then out else out ||| 2 ^ k) 0
def memOp (x : Cd) : Bool := x.op == 8 || x.op == 9
def exec1 (x : Cd) (s : LS) (k : Nat) : LS :=
  { s with
    regs := s.regs.set k (simp1 x k (s.regs.getD k []) s.mem).1
    mem := (simp1 x k (s.regs.getD k []) s.mem).2
    accs := if memOp x then s.accs ++ [⟨k, (s.reg k x.b % s.mem.length).toNat, x.op == 9, s.phase⟩] else s.accs }
def execM (x : Cd) (m : Nat) (s : LS) : LS :=
  let t := (lanesOf m).foldl (exec1 x) s
  if x.op == 10 then { t with phase := t.phase + 1 } else t

/-- n turns of a loop: the mask of the lanes that go on, and the state. -/
def turnsOf (f : Nat → LS → LS) (a : Int) : Nat → Nat → LS → LS
  | 0, _, s => s
  | n + 1, m, s => turnsOf f a n (onesOf m a s) (f (onesOf m a s) s)

/-- A tree that begins at place p, under a mask. -/
def Blk.run : Blk → Nat → Nat → LS → LS
  | .nil, _, _, s => s
  | .op x r, p, m, s => if m = 0 then s else r.run (p + 1) m (execM x m (beat p m s))
  | .iff a t r, p, m, s => if m = 0 then s else
      r.run (p + t.flat.length + 2) m (t.run (p + 1) (onesOf m a s) (beat p m s))
  | .ife a t e r, p, m, s => if m = 0 then s else
      r.run (p + t.flat.length + e.flat.length + 3) m (e.run (p + t.flat.length + 2) (mdiff m (onesOf m a s)) (t.run (p + 1) (onesOf m a s) (beat p m s)))
  | .loop a b t r, p, m, s => if m = 0 then s else
      r.run (p + t.flat.length + 2) m (turnsOf (fun m s => t.run (p + 1) m s) a b.toNat m (beat p m s))

/-- The lanes before a run. -/
def LS.start (n : Nat) (mem : List Int) : LS := ⟨List.replicate n [0, 0, 0, 0], mem, [], [], 0⟩
/-- A run of a whole program. -/
def runT (b : Blk) (n : Nat) (mem : List Int) : LS := b.run 0 (2 ^ n - 1) (LS.start n mem)

/-! ### Folds over lanes -/
theorem foldl_lanes {α : Type} (m : Nat) (f : α → Nat → α) (s : α) : (lanesOf m).foldl f s = (List.range 8).foldl (fun s k => if m.testBit k then f s k else s) s := by
  unfold lanesOf
  rw [List.foldl_filter]

def onesTo (m : Nat) (a : Int) (s : LS) : Nat → Nat
  | 0 => 0
  | k + 1 => if m.testBit k && !(s.reg k a == 0) then onesTo m a s k ||| 2 ^ k else onesTo m a s k
def execTo (x : Cd) (m : Nat) (s : LS) : Nat → LS
  | 0 => s
  | k + 1 => if m.testBit k then exec1 x (execTo x m s k) k else execTo x m s k

theorem foldl_range {α : Type} (f : α → Nat → α) (s : α) (g : Nat → α) (h0 : g 0 = s) (hs : ∀ k, g (k + 1) = f (g k) k) : ∀ n, (List.range n).foldl f s = g n
  | 0 => h0.symm
  | n + 1 => by rw [List.range_succ, List.foldl_append, foldl_range f s g h0 hs n, hs n]; rfl
theorem onesOf_to (m : Nat) (a : Int) (s : LS) : onesOf m a s = onesTo m a s 8 := by
  unfold onesOf
  rw [foldl_lanes]
  refine foldl_range _ _ (onesTo m a s) rfl (fun k => ?_) 8
  simp only [onesTo]
  cases m.testBit k <;> cases (s.reg k a == 0) <;> rfl
theorem exec_to (x : Cd) (m : Nat) (s : LS) : (lanesOf m).foldl (exec1 x) s = execTo x m s 8 := by
  rw [foldl_lanes]
  exact foldl_range _ _ (execTo x m s) rfl (fun k => rfl) 8
theorem testBit_high {m n k : Nat} (h : m < 2 ^ n) (hk : n ≤ k) : m.testBit k = false := Nat.testBit_lt_two_pow (Nat.lt_of_lt_of_le h (Nat.pow_le_pow_right (by decide) hk))
theorem onesTo_more {m n : Nat} (h : m < 2 ^ n) (a : Int) (s : LS) : ∀ j, onesTo m a s (n + j) = onesTo m a s n
  | 0 => rfl
  | j + 1 => by
    show onesTo m a s (n + j + 1) = _
    simp [onesTo, testBit_high h (Nat.le_add_right n j), onesTo_more h a s j]
theorem execTo_more {m n : Nat} (h : m < 2 ^ n) (x : Cd) (s : LS) : ∀ j, execTo x m s (n + j) = execTo x m s n
  | 0 => rfl
  | j + 1 => by
    show execTo x m s (n + j + 1) = _
    simp [execTo, testBit_high h (Nat.le_add_right n j), execTo_more h x s j]
theorem onesOf_n {m n : Nat} (h : m < 2 ^ n) (hn : n ≤ 8) (a : Int) (s : LS) : onesOf m a s = onesTo m a s n := by
  rw [onesOf_to, show 8 = n + (8 - n) by omega, onesTo_more h]
theorem exec_n {m n : Nat} (h : m < 2 ^ n) (hn : n ≤ 8) (x : Cd) (s : LS) : (lanesOf m).foldl (exec1 x) s = execTo x m s n := by
  rw [exec_to, show 8 = n + (8 - n) by omega, execTo_more h]
theorem onesTo_lt (m : Nat) (a : Int) (s : LS) : ∀ k, onesTo m a s k < 2 ^ k
  | 0 => by simp [onesTo]
  | k + 1 => by
    have h := onesTo_lt m a s k
    have h2 : 2 ^ k < 2 ^ (k + 1) := Nat.pow_lt_pow_right (by decide) (by omega)
    simp only [onesTo]
    split
    · exact Nat.or_lt_two_pow (by omega) h2
    · omega
theorem onesTo_bit (m : Nat) (a : Int) (s : LS) (i : Nat) : ∀ k, (onesTo m a s k).testBit i = (decide (i < k) && (m.testBit i && !(s.reg i a == 0)))
  | 0 => by simp [onesTo]
  | k + 1 => by
    have h := onesTo_bit m a s i k
    simp only [onesTo]
    by_cases e : i = k
    · subst e
      split
      · rename_i hc
        rw [Nat.testBit_or, Nat.testBit_two_pow_self, Bool.or_true, hc]; simp
      · rename_i hc
        rw [h]
        simp only [Nat.lt_irrefl, decide_false, Bool.false_and]
        simp only [Bool.not_eq_true] at hc
        rw [hc]; simp
    · have e2 : (i < k + 1) = (i < k) := by simp; omega
      have e3 : decide (i < k + 1) = decide (i < k) := by simp only [e2]
      rw [e3]
      split
      · rw [Nat.testBit_or, h, Nat.testBit_two_pow_of_ne (fun h => e h.symm)]; simp
      · exact h
theorem onesOf_bit (m : Nat) (a : Int) (s : LS) (i : Nat) (hm : m < 2 ^ 8) : (onesOf m a s).testBit i = (m.testBit i && !(s.reg i a == 0)) := by
  rw [onesOf_to, onesTo_bit]
  by_cases h : i < 8
  · simp [h]
  · have := testBit_high (k := i) hm (by omega)
    simp [h, this]
theorem onesOf_lt {m n : Nat} (h : m < 2 ^ n) (hn : n ≤ 8) (a : Int) (s : LS) : onesOf m a s < 2 ^ n := by
  rw [onesOf_n h hn]; exact onesTo_lt _ _ _ _
theorem onesOf_zero (a : Int) (s : LS) : onesOf 0 a s = 0 := by
  rw [onesOf_n (n := 0) (by simp) (by omega)]; rfl

/-! ### What is kept -/
/-- n lanes with 4 registers each, and a memory. -/
structure SOk (n : Nat) (s : LS) : Prop where
  n8 : n ≤ 8
  len : s.regs.length = n
  four : ∀ r ∈ s.regs, r.length = 4 ∧ wordsOk r
  memw : wordsOk s.mem
  mem1 : 1 ≤ s.mem.length
  mem2 : s.mem.length ≤ 32
theorem SOk.get {n : Nat} {s : LS} (h : SOk n s) {k : Nat} (hk : k < n) : (s.regs.getD k []).length = 4 ∧ wordsOk (s.regs.getD k []) := by
  have hk2 : k < s.regs.length := by rw [h.len]; exact hk
  have : s.regs.getD k [] = s.regs[k] := by simp [List.getD_eq_getElem?_getD, List.getElem?_eq_getElem hk2]
  rw [this]
  exact h.four _ (List.getElem_mem hk2)
theorem SOk.beat {n : Nat} {s : LS} (h : SOk n s) (p m : Nat) : SOk n (beat p m s) := ⟨h.n8, h.len, h.four, h.memw, h.mem1, h.mem2⟩
theorem SOk.exec1 {n : Nat} {s : LS} (h : SOk n s) {x : Cd} (hv : cvOk x = true) {k : Nat} (hk : k < n) : SOk n (exec1 x s k) := by
  have hg := h.get hk
  have hl := simp1_len x k (s.regs.getD k []) s.mem
  have hw := simp1_words (id := k) hv (by have := h.n8; omega) hg.2 h.memw
  refine ⟨h.n8, by simp [Proofs.Ytfgbbajkdpideaa.exec1, h.len], fun r hr => ?_, hw.2, by show 1 ≤ _; rw [show (Proofs.Ytfgbbajkdpideaa.exec1 x s k).mem = (simp1 x k (s.regs.getD k []) s.mem).2 from rfl, hl.2]; exact h.mem1, by rw [show (Proofs.Ytfgbbajkdpideaa.exec1 x s k).mem = (simp1 x k (s.regs.getD k []) s.mem).2 from rfl, hl.2]; exact h.mem2⟩
  rcases List.mem_or_eq_of_mem_set hr with hr | rfl
  · exact h.four r hr
  · exact ⟨hl.1.trans hg.1, hw.1⟩
theorem SOk.execTo {n : Nat} {s : LS} (h : SOk n s) {x : Cd} (hv : cvOk x = true) (m : Nat) : ∀ k, k ≤ n → SOk n (execTo x m s k)
  | 0, _ => h
  | k + 1, hk => by
    have := SOk.execTo h hv m k (by omega)
    simp only [Proofs.Ytfgbbajkdpideaa.execTo]
    split
    · exact this.exec1 hv (by omega)
    · exact this
theorem execM_eq {m n : Nat} (h : m < 2 ^ n) (hn : n ≤ 8) (x : Cd) (s : LS) : execM x m s = if x.op == 10 then { execTo x m s n with phase := (execTo x m s n).phase + 1 } else execTo x m s n := by
  simp only [execM, exec_n h hn]
theorem SOk.execM {n : Nat} {s : LS} (h : SOk n s) {x : Cd} (hv : cvOk x = true) {m : Nat} (hm : m < 2 ^ n) : SOk n (execM x m s) := by
  have := h.execTo hv m n (Nat.le_refl _)
  rw [execM_eq hm h.n8]
  split
  · exact ⟨this.n8, this.len, this.four, this.memw, this.mem1, this.mem2⟩
  · exact this
theorem turns_ok {n : Nat} {f : Nat → LS → LS} (hf : ∀ m s, m < 2 ^ n → SOk n s → SOk n (f m s)) (a : Int) : ∀ (b m : Nat) (s : LS), m < 2 ^ n → SOk n s → SOk n (turnsOf f a b m s)
  | 0, _, _, _, h => h
  | b + 1, m, s, hm, h => turns_ok hf a b _ _ (onesOf_lt hm h.n8 a s) (hf _ _ (onesOf_lt hm h.n8 a s) h)
theorem run_ok {n : Nat} (b : Blk) : ∀ (d p m : Nat) (s : LS), b.ok d → m < 2 ^ n → SOk n s → SOk n (b.run p m s) := by
  induction b with
  | nil => intro d p m s _ _ h; exact h
  | op x r ih =>
    intro d p m s ⟨hx, h1, h2, hr⟩ hm h
    simp only [Blk.run]
    split
    · exact h
    · exact ih d _ _ _ hr hm ((h.beat p m).execM hx hm)
  | iff a t r iht ihr =>
    intro d p m s ⟨_, _, ht, hr⟩ hm h
    simp only [Blk.run]
    split
    · exact h
    · exact ihr d _ _ _ hr hm (iht _ _ _ _ ht (onesOf_lt hm h.n8 a s) (h.beat p m))
  | ife a t e r iht ihe ihr =>
    intro d p m s ⟨_, _, ht, he, hr⟩ hm h
    simp only [Blk.run]
    split
    · exact h
    · exact ihr d _ _ _ hr hm (ihe _ _ _ _ he (mdiff_lt hm) (iht _ _ _ _ ht (onesOf_lt hm h.n8 a s) (h.beat p m)))
  | loop a c t r iht ihr =>
    intro d p m s ⟨_, _, _, ht, hr⟩ hm h
    simp only [Blk.run]
    split
    · exact h
    · exact ihr d _ _ _ hr hm (turns_ok (fun m s hm h => iht _ _ _ _ ht hm h) a _ _ _ hm (h.beat p m))

/-! ### Places -/
theorem drop_cons {l : List Cd} {q : Nat} {x : Cd} {r : List Cd} (h : l.drop q = x :: r) : l[q]? = some x ∧ l.drop (q + 1) = r ∧ q < l.length := by
  have h1 : l[q]? = some x := by
    have := congrArg (fun m => m[0]?) h
    simpa using this
  refine ⟨h1, ?_, (List.getElem?_eq_some_iff.1 h1).1⟩
  rw [← List.drop_drop, h]; rfl
theorem drop_skip {l : List Cd} {q : Nat} {m r : List Cd} (h : l.drop q = m ++ r) : l.drop (q + m.length) = r := by
  rw [← List.drop_drop, h, List.drop_left]
theorem end_iff {l : List Cd} {q d : Nat} {x : Cd} {t : Blk} {r : List Cd} (ht : t.ok d) (h : l.drop q = x :: (t.flat ++ cEnd :: r)) :
    endOf l q = (((q + t.flat.length + 1 : Nat) : Int), (-1 : Int)) ∧ l.drop (q + 1) = t.flat ++ cEnd :: r ∧ l.drop (q + t.flat.length + 2) = r := by
  obtain ⟨h1, h2, h3⟩ := drop_cons h
  have h4 := drop_skip h2
  refine ⟨?_, h2, ?_⟩
  · unfold endOf
    rw [h2, scanE_flat t d _ _ _ _ ht, scanE_end0]
    congr 1
    omega
  · have := (drop_cons h4).2.1
    rw [← this]; congr 1; omega
theorem end_ife {l : List Cd} {q d d' : Nat} {x : Cd} {t e : Blk} {r : List Cd} (ht : t.ok d) (he : e.ok d') (h : l.drop q = x :: (t.flat ++ cElse :: (e.flat ++ cEnd :: r))) :
    endOf l q = (((q + t.flat.length + e.flat.length + 2 : Nat) : Int), ((q + t.flat.length + 1 : Nat) : Int)) ∧ l.drop (q + 1) = t.flat ++ cElse :: (e.flat ++ cEnd :: r) ∧
      l.drop (q + t.flat.length + 2) = e.flat ++ cEnd :: r ∧ l.drop (q + t.flat.length + e.flat.length + 3) = r := by
  obtain ⟨h1, h2, h3⟩ := drop_cons h
  have h4 := drop_skip h2
  have h5 := (drop_cons h4).2.1
  have h5' : l.drop (q + t.flat.length + 2) = e.flat ++ cEnd :: r := by rw [← h5]; congr 1; omega
  have h6 := drop_skip h5'
  refine ⟨?_, h2, h5', ?_⟩
  · unfold endOf
    rw [h2, scanE_flat t d _ _ _ _ ht, scanE_else, if_pos rfl, scanE_flat e d' _ _ _ _ he, scanE_end0]
    congr 1
    · omega
    · omega
  · have := (drop_cons h6).2.1
    rw [← this]; congr 1; omega

/-! ### Barriers that are split -/
def splitB (l : List Cd) (n : Nat) (bs : List (Nat × Nat)) : Bool := bs.any fun q => opAt l q.1 == 10 && !(q.2 == 2 ^ n - 1)
theorem splitB_snoc (l : List Cd) (n : Nat) (bs : List (Nat × Nat)) (p m : Nat) : splitB l n (bs ++ [(p, m)]) = (splitB l n bs || (opAt l p == 10 && !(m == 2 ^ n - 1))) := by
  simp [splitB, List.any_append]
theorem execTo_beats (x : Cd) (m : Nat) (s : LS) : ∀ k, (execTo x m s k).beats = s.beats
  | 0 => rfl
  | k + 1 => by
    simp only [execTo]
    split
    · exact execTo_beats x m s k
    · exact execTo_beats x m s k

/-! ### How many steps a tree can have -/
def Blk.wt : Blk → Nat
  | .nil => 0
  | .op _ r => 1 + r.wt
  | .iff _ t r => 1 + t.wt + r.wt
  | .ife _ t e r => 1 + t.wt + e.wt + r.wt
  | .loop _ b t r => 1 + b.toNat * t.wt + r.wt
theorem wt_le (b : Blk) : ∀ d, b.ok d → b.wt ≤ 4 ^ d * b.flat.length := by
  induction b with
  | nil => intro d _; simp [Blk.wt]
  | op x r ih =>
    intro d ⟨_, _, _, hr⟩
    have := ih d hr
    have h1 : 1 ≤ 4 ^ d := Nat.one_le_pow _ _ (by decide)
    simp only [Blk.wt, Blk.flat, List.length_cons, Nat.mul_add]
    omega
  | iff a t r iht ihr =>
    intro d ⟨_, hd, ht, hr⟩
    have h1 := iht (d - 1) ht
    have h2 := ihr d hr
    obtain ⟨e, rfl⟩ : ∃ e, d = e + 1 := ⟨d - 1, by omega⟩
    have h3 : 1 ≤ 4 ^ e := Nat.one_le_pow _ _ (by decide)
    simp only [Nat.add_sub_cancel] at h1
    simp only [Blk.wt, Blk.flat, List.length_cons, List.length_append, Nat.mul_add, Nat.pow_succ] at *
    have : 4 ^ e * t.flat.length ≤ 4 ^ e * 4 * t.flat.length := Nat.mul_le_mul_right _ (by omega)
    omega
  | ife a t e r iht ihe ihr =>
    intro d ⟨_, hd, ht, he, hr⟩
    have h1 := iht (d - 1) ht
    have h1e := ihe (d - 1) he
    have h2 := ihr d hr
    obtain ⟨f, rfl⟩ : ∃ f, d = f + 1 := ⟨d - 1, by omega⟩
    have h3 : 1 ≤ 4 ^ f := Nat.one_le_pow _ _ (by decide)
    simp only [Nat.add_sub_cancel] at h1 h1e
    simp only [Blk.wt, Blk.flat, List.length_cons, List.length_append, Nat.mul_add, Nat.pow_succ] at *
    have q1 : 4 ^ f * t.flat.length ≤ 4 ^ f * 4 * t.flat.length := Nat.mul_le_mul_right _ (by omega)
    have q2 : 4 ^ f * e.flat.length ≤ 4 ^ f * 4 * e.flat.length := Nat.mul_le_mul_right _ (by omega)
    omega
  | loop a c t r iht ihr =>
    intro d ⟨_, hc, hd, ht, hr⟩
    have h1 := iht (d - 1) ht
    have h2 := ihr d hr
    obtain ⟨e, rfl⟩ : ∃ e, d = e + 1 := ⟨d - 1, by omega⟩
    have h3 : 1 ≤ 4 ^ e := Nat.one_le_pow _ _ (by decide)
    simp only [Nat.add_sub_cancel] at h1
    simp only [Blk.wt, Blk.flat, List.length_cons, List.length_append, Nat.mul_add, Nat.pow_succ] at *
    have q1 : c.toNat * t.wt ≤ 4 * t.wt := Nat.mul_le_mul_right _ (by omega)
    have q2 : 4 * t.wt ≤ 4 * (4 ^ e * t.flat.length) := Nat.mul_le_mul_left _ h1
    have q3 : 4 * (4 ^ e * t.flat.length) = 4 ^ e * 4 * t.flat.length := by rw [← Nat.mul_assoc, Nat.mul_comm 4]
    omega
theorem turns_beats {f : Nat → LS → LS} {c : Nat} (hf : ∀ m s, (f m s).beats.length ≤ s.beats.length + c) (a : Int) : ∀ (b m : Nat) (s : LS), (turnsOf f a b m s).beats.length ≤ s.beats.length + b * c
  | 0, _, _ => by simp [turnsOf]
  | b + 1, m, s => by
    have h1 := turns_beats hf a b (onesOf m a s) (f (onesOf m a s) s)
    have h2 := hf (onesOf m a s) s
    simp only [turnsOf, Nat.add_mul]
    omega
theorem execM_beats (x : Cd) (m : Nat) (s : LS) : (execM x m s).beats = s.beats := by
  have : ((lanesOf m).foldl (exec1 x) s).beats = s.beats := by
    rw [exec_to]; exact execTo_beats x m s 8
  unfold execM
  dsimp only
  split <;> exact this
theorem run_beats (b : Blk) : ∀ (p m : Nat) (s : LS), (b.run p m s).beats.length ≤ s.beats.length + b.wt := by
  induction b with
  | nil => intro p m s; simp [Blk.run]
  | op x r ih =>
    intro p m s
    simp only [Blk.run]
    split
    · omega
    · have := ih (p + 1) m (execM x m (beat p m s))
      rw [execM_beats] at this
      simp [beat, Blk.wt] at *
      omega
  | iff a t r iht ihr =>
    intro p m s
    simp only [Blk.run]
    split
    · omega
    · have h1 := ihr (p + t.flat.length + 2) m (t.run (p + 1) (onesOf m a s) (beat p m s))
      have h2 := iht (p + 1) (onesOf m a s) (beat p m s)
      have h3 : (beat p m s).beats.length = s.beats.length + 1 := by simp [beat]
      simp only [Blk.wt]
      omega
  | ife a t e r iht ihe ihr =>
    intro p m s
    simp only [Blk.run]
    split
    · omega
    · have h1 := ihr (p + t.flat.length + e.flat.length + 3) m (e.run (p + t.flat.length + 2) (mdiff m (onesOf m a s)) (t.run (p + 1) (onesOf m a s) (beat p m s)))
      have h4 := ihe (p + t.flat.length + 2) (mdiff m (onesOf m a s)) (t.run (p + 1) (onesOf m a s) (beat p m s))
      have h2 := iht (p + 1) (onesOf m a s) (beat p m s)
      have h3 : (beat p m s).beats.length = s.beats.length + 1 := by simp [beat]
      simp only [Blk.wt]
      omega
  | loop a c t r iht ihr =>
    intro p m s
    simp only [Blk.run]
    split
    · omega
    · have h1 := ihr (p + t.flat.length + 2) m (turnsOf (fun m s => t.run (p + 1) m s) a c.toNat m (beat p m s))
      have h2 := turns_beats (f := fun m s => t.run (p + 1) m s) (fun m s => iht (p + 1) m s) a c.toNat m (beat p m s)
      have h3 : (beat p m s).beats.length = s.beats.length + 1 := by simp [beat]
      simp only [Blk.wt]
      omega
theorem run_zero (b : Blk) (p : Nat) (s : LS) : b.run p 0 s = s := by
  cases b <;> simp [Blk.run]
theorem turns_zero {f : Nat → LS → LS} (hf : ∀ s, f 0 s = s) (a : Int) : ∀ (b m : Nat) (s : LS), onesOf m a s = 0 → turnsOf f a b m s = s
  | 0, _, _, _ => rfl
  | b + 1, m, s, h => by
    simp only [turnsOf, h, hf]
    exact turns_zero hf a b 0 s (onesOf_zero a s)
theorem turns_succ (f : Nat → LS → LS) (a : Int) {b j : Nat} (h : j < b) (m : Nat) (s : LS) : turnsOf f a (b - j) m s = turnsOf f a (b - (j + 1)) (onesOf m a s) (f (onesOf m a s) s) := by
  obtain ⟨e, he⟩ : ∃ e, b - j = e + 1 := ⟨b - j - 1, by omega⟩
  rw [he, show b - (j + 1) = e by omega]
  rfl
theorem run_split {l : List Cd} {n : Nat} {p m : Nat} {s : LS} (h : opAt l p ≠ 10) : splitB l n (beat p m s).beats = splitB l n s.beats := by
  show splitB l n (s.beats ++ [(p, m)]) = _
  rw [splitB_snoc]
  have : (opAt l p == 10) = false := beq_eq_false_iff_ne.2 h
  simp [this]

def memOk (m : List Int) : Bool := m.all (fun v => inR v 0 255) && inR m.length 1 32
theorem memOk_iff {m : List Int} : memOk m = true ↔ wordsOk m ∧ 1 ≤ m.length ∧ m.length ≤ 32 := by
  simp only [memOk, Bool.and_eq_true, List.all_eq_true, inR_iff, wordsOk]
  constructor
  · rintro ⟨h1, h2⟩; exact ⟨h1, by omega, by omega⟩
  · rintro ⟨h1, h2⟩; exact ⟨h1, by omega, by omega⟩
def lockOk (l : List Cd) (n : Int) (m : List Int) : Bool := pv l && (inR n 1 8 && memOk m)
instance : Nonempty Blk := ⟨.nil⟩
/-- The tree of a valid program. -/
noncomputable def treeOf (l : List Cd) : Blk := Classical.epsilon fun b => b.ok 3 ∧ b.flat = l
theorem treeOf_spec {l : List Cd} (h : pv l = true) : (treeOf l).ok 3 ∧ (treeOf l).flat = l := Classical.epsilon_spec (pv_tree.1 h).2
/-- The state after a run of a valid program. -/
noncomputable def lockS (l : List Cd) (n : Nat) (m : List Int) : LS := runT (treeOf l) n m
noncomputable def traceOf (l : List Cd) (n : Int) (m : List Int) : List (Nat × Nat) := if lockOk l n m then (lockS l n.toNat m).beats else []
theorem trace_len {l : List Cd} (h : pv l = true) (n : Nat) (m : List Int) : (lockS l n m).beats.length ≤ 2560 := by
  obtain ⟨h1, h2⟩ := treeOf_spec h
  have h3 := wt_le _ 3 h1
  have h4 := run_beats (treeOf l) 0 (2 ^ n - 1) (LS.start n m)
  have h40 := (pv_iff.1 h).1
  rw [h2] at h3
  have : (LS.start n m).beats.length = 0 := rfl
  have e : lockS l n m = (treeOf l).run 0 (2 ^ n - 1) (LS.start n m) := rfl
  rw [e]
  omega

/-- Every step is at a place of the tree, under some lanes. -/
def beatsIn (lo hi n : Nat) (bs : List (Nat × Nat)) : Prop := ∀ q ∈ bs, lo ≤ q.1 ∧ q.1 < hi ∧ 0 < q.2 ∧ q.2 < 2 ^ n
theorem beatsIn.snoc {lo hi n : Nat} {bs : List (Nat × Nat)} (h : beatsIn lo hi n bs) {p m : Nat} (h1 : lo ≤ p) (h2 : p < hi) (h3 : 0 < m) (h4 : m < 2 ^ n) : beatsIn lo hi n (bs ++ [(p, m)]) := by
  intro q hq
  rcases List.mem_append.1 hq with hq | hq
  · exact h q hq
  · simp at hq; subst hq; exact ⟨h1, h2, h3, h4⟩
theorem turns_in {lo hi n : Nat} (hn : n ≤ 8) {f : Nat → LS → LS} (hf : ∀ m s, m < 2 ^ n → beatsIn lo hi n s.beats → beatsIn lo hi n (f m s).beats) (a : Int) : ∀ (b m : Nat) (s : LS), m < 2 ^ n → beatsIn lo hi n s.beats → beatsIn lo hi n (turnsOf f a b m s).beats
  | 0, _, _, _, h => h
  | b + 1, m, s, hm, h => turns_in hn hf a b _ _ (onesOf_lt hm hn a s) (hf _ _ (onesOf_lt hm hn a s) h)
theorem run_within {n : Nat} (hn : n ≤ 8) (b : Blk) : ∀ (lo hi p m : Nat) (s : LS), lo ≤ p → p + b.flat.length ≤ hi → m < 2 ^ n → beatsIn lo hi n s.beats → beatsIn lo hi n (b.run p m s).beats := by
  induction b with
  | nil => intro lo hi p m s _ _ _ h; exact h
  | op x r ih =>
    intro lo hi p m s h1 h2 hm h
    simp only [Blk.flat, List.length_cons] at h2
    simp only [Blk.run]
    split
    · exact h
    · refine ih lo hi (p + 1) m _ (by omega) (by omega) hm ?_
      rw [execM_beats]
      exact h.snoc h1 (by omega) (by omega) hm
  | iff a t r iht ihr =>
    intro lo hi p m s h1 h2 hm h
    simp only [Blk.flat, List.length_cons, List.length_append] at h2
    simp only [Blk.run]
    split
    · exact h
    · refine ihr lo hi _ m _ (by omega) (by omega) hm ?_
      exact iht lo hi _ _ _ (by omega) (by omega) (onesOf_lt hm hn a s) (h.snoc h1 (by omega) (by omega) hm)
  | ife a t e r iht ihe ihr =>
    intro lo hi p m s h1 h2 hm h
    simp only [Blk.flat, List.length_cons, List.length_append] at h2
    simp only [Blk.run]
    split
    · exact h
    · refine ihr lo hi _ m _ (by omega) (by omega) hm ?_
      refine ihe lo hi _ _ _ (by omega) (by omega) (mdiff_lt hm) ?_
      exact iht lo hi _ _ _ (by omega) (by omega) (onesOf_lt hm hn a s) (h.snoc h1 (by omega) (by omega) hm)
  | loop a c t r iht ihr =>
    intro lo hi p m s h1 h2 hm h
    simp only [Blk.flat, List.length_cons, List.length_append] at h2
    simp only [Blk.run]
    split
    · exact h
    · refine ihr lo hi _ m _ (by omega) (by omega) hm ?_
      exact turns_in hn (fun m s hm h => iht lo hi _ m s (by omega) (by omega) hm h) a _ m _ hm (h.snoc h1 (by omega) (by omega) hm)
theorem trace_in {l : List Cd} {n : Int} {m : List Int} : ∀ q ∈ traceOf l n m, q.1 < l.length ∧ 0 < q.2 ∧ q.2 < 2 ^ n.toNat := by
  intro q hq
  unfold traceOf at hq
  split at hq
  · rename_i h
    simp only [lockOk, Bool.and_eq_true] at h
    have hn := inR_iff.1 h.2.1
    obtain ⟨_, h2⟩ := treeOf_spec h.1
    have h3 := run_within (n := n.toNat) (by omega) (treeOf l) 0 l.length 0 (2 ^ n.toNat - 1) (LS.start n.toNat m) (by omega) (by rw [h2]; omega) (by have : 0 < 2 ^ n.toNat := Nat.pow_pos (by decide); omega) (fun q hq => by simp [LS.start] at hq)
    have := h3 q hq
    exact ⟨this.2.1, this.2.2.1, this.2.2.2⟩
  · simp at hq
theorem traceOf_len (l : List Cd) (n : Int) (m : List Int) : (traceOf l n m).length ≤ 2560 := by
  unfold traceOf
  split
  · rename_i h
    simp only [lockOk, Bool.and_eq_true] at h
    exact trace_len h.1 _ _
  · simp

/-! ### Counts, the hottest place, profiles -/
def countAt (bs : List (Nat × Nat)) (k : Nat) : Nat := (bs.filter fun q => q.1 == k).length
def countRow (bs : List (Nat × Nat)) (n : Nat) : List Int := (List.range n).map fun k => (countAt bs k : Int)
theorem countAt_snoc (bs : List (Nat × Nat)) (p m k : Nat) : countAt (bs ++ [(p, m)]) k = countAt bs k + (if p = k then 1 else 0) := by
  unfold countAt
  rw [List.filter_append, List.length_append]
  by_cases h : p = k <;> simp [List.filter_cons, h]
theorem countAt_le (bs : List (Nat × Nat)) (k : Nat) : countAt bs k ≤ bs.length := List.length_filter_le _ _
theorem countRow_len (bs : List (Nat × Nat)) (n : Nat) : (countRow bs n).length = n := by simp [countRow]
theorem countRow_get (bs : List (Nat × Nat)) {n k : Nat} (h : k < n) : (countRow bs n)[k]? = some (countAt bs k : Int) := by simp [countRow, h]
theorem countRow_snoc {bs : List (Nat × Nat)} {p m n : Nat} (h : p < n) : (countRow bs n).set p ((countAt bs p : Int) + 1) = countRow (bs ++ [(p, m)]) n := by
  apply List.ext_getElem?
  intro j
  rw [List.getElem?_set, countRow_len]
  by_cases hj : j < n
  · rw [countRow_get (bs ++ [(p, m)]) hj, countAt_snoc]
    by_cases e : p = j
    · subst e
      simp [h]
    · rw [if_neg e, countRow_get _ hj, if_neg e]
      simp
  · rw [if_neg (by omega), List.getElem?_eq_none (by rw [countRow_len]; omega), List.getElem?_eq_none (by rw [countRow_len]; omega)]
theorem countRow_nil (n : Nat) : countRow [] n = List.replicate n 0 := by
  apply List.ext_getElem?
  intro j
  by_cases h : j < n <;> simp [countRow, countAt, h]
noncomputable def countsL (l : List Cd) (n : Int) (m : List Int) : List Int := if lockOk l n m then countRow (traceOf l n m) l.length else []
theorem countsL_len (l : List Cd) (n : Int) (m : List Int) : (countsL l n m).length ≤ l.length := by
  unfold countsL
  split
  · rw [countRow_len]; exact Nat.le_refl _
  · simp

def Bd (s : LS) : Prop := s.accs.length ≤ 8 * s.beats.length ∧ s.phase ≤ s.beats.length
theorem exec1_acc (x : Cd) (s : LS) (k : Nat) : (exec1 x s k).accs.length ≤ s.accs.length + 1 := by
  simp only [exec1]
  split <;> simp
theorem execTo_acc (x : Cd) (m : Nat) (s : LS) : ∀ k, (execTo x m s k).accs.length ≤ s.accs.length + k
  | 0 => Nat.le_refl _
  | k + 1 => by
    have h := execTo_acc x m s k
    simp only [execTo]
    split
    · have := exec1_acc x (execTo x m s k) k; omega
    · omega
theorem execTo_phase (x : Cd) (m : Nat) (s : LS) : ∀ k, (execTo x m s k).phase = s.phase
  | 0 => rfl
  | k + 1 => by
    have h := execTo_phase x m s k
    simp only [execTo]
    split <;> exact h
theorem execM_acc (x : Cd) (m : Nat) (s : LS) : (execM x m s).accs.length ≤ s.accs.length + 8 := by
  have h := execTo_acc x m s 8
  rw [← exec_to] at h
  unfold execM
  dsimp only
  split <;> exact h
theorem execM_phase (x : Cd) (m : Nat) (s : LS) : (execM x m s).phase ≤ s.phase + 1 := by
  have h := execTo_phase x m s 8
  rw [← exec_to] at h
  unfold execM
  dsimp only
  split
  · simp only []; omega
  · omega
theorem Bd.beat {s : LS} (h : Bd s) (p m : Nat) : Bd (beat p m s) := by
  obtain ⟨h1, h2⟩ := h
  constructor
  · show s.accs.length ≤ 8 * (s.beats ++ [(p, m)]).length
    simp; omega
  · show s.phase ≤ (s.beats ++ [(p, m)]).length
    simp; omega
theorem Bd.op {s : LS} (h : Bd s) (x : Cd) (p m : Nat) : Bd (execM x m (Proofs.Ytfgbbajkdpideaa.beat p m s)) := by
  obtain ⟨h1, h2⟩ := h
  have a1 := execM_acc x m (Proofs.Ytfgbbajkdpideaa.beat p m s)
  have a2 := execM_phase x m (Proofs.Ytfgbbajkdpideaa.beat p m s)
  have a3 : (Proofs.Ytfgbbajkdpideaa.beat p m s).accs.length = s.accs.length := rfl
  have a4 : (Proofs.Ytfgbbajkdpideaa.beat p m s).phase = s.phase := rfl
  have a5 : (Proofs.Ytfgbbajkdpideaa.beat p m s).beats.length = s.beats.length + 1 := by simp [Proofs.Ytfgbbajkdpideaa.beat]
  unfold Bd
  rw [execM_beats]
  omega
theorem turns_bd {f : Nat → LS → LS} (hf : ∀ m s, Bd s → Bd (f m s)) (a : Int) : ∀ (b m : Nat) (s : LS), Bd s → Bd (turnsOf f a b m s)
  | 0, _, _, h => h
  | b + 1, m, s, h => turns_bd hf a b _ _ (hf _ _ h)
theorem run_bd (b : Blk) : ∀ (p m : Nat) (s : LS), Bd s → Bd (b.run p m s) := by
  induction b with
  | nil => intro p m s h; exact h
  | op x r ih =>
    intro p m s h
    simp only [Blk.run]
    split
    · exact h
    · exact ih _ _ _ (h.op x p m)
  | iff a t r iht ihr =>
    intro p m s h
    simp only [Blk.run]
    split
    · exact h
    · exact ihr _ _ _ (iht _ _ _ (h.beat p m))
  | ife a t e r iht ihe ihr =>
    intro p m s h
    simp only [Blk.run]
    split
    · exact h
    · exact ihr _ _ _ (ihe _ _ _ (iht _ _ _ (h.beat p m)))
  | loop a c t r iht ihr =>
    intro p m s h
    simp only [Blk.run]
    split
    · exact h
    · exact ihr _ _ _ (turns_bd (fun m s h => iht _ m s h) a _ m _ (h.beat p m))
theorem Bd.start (n : Nat) (mem : List Int) : Bd (LS.start n mem) := ⟨Nat.le_refl _, Nat.le_refl _⟩

/-! ### Lanes of a mask, one by one -/
def lanesTo (m k : Nat) : List Nat := (List.range k).filter fun j => m.testBit j
def lanesI (m : Nat) : List Int := (lanesOf m).map fun (k : Nat) => (k : Int)
theorem lanesTo_succ (m k : Nat) : lanesTo m (k + 1) = if m.testBit k then lanesTo m k ++ [k] else lanesTo m k := by
  unfold lanesTo
  rw [List.range_succ, List.filter_append]
  cases h : m.testBit k <;> simp [h]
theorem lanesTo_len (m : Nat) : ∀ k, (lanesTo m k).length ≤ k := fun k => by
  have := List.length_filter_le (fun j => m.testBit j) (List.range k)
  simpa [lanesTo] using this
theorem lanesOf_to (m : Nat) : lanesOf m = lanesTo m 8 := rfl
theorem lanesOf_len (m : Nat) : (lanesOf m).length ≤ 8 := lanesTo_len m 8
theorem lanesOf_mem {m k : Nat} : k ∈ lanesOf m ↔ k < 8 ∧ m.testBit k = true := by simp [lanesOf]
theorem lanesI_len (m : Nat) : (lanesI m).length = (lanesOf m).length := by simp [lanesI]
theorem lanesI_get {m j k : Nat} (h : (lanesOf m)[j]? = some k) : (lanesI m)[j]? = some (k : Int) := by simp [lanesI, h]
theorem lanesOf_lt {m n : Nat} (hm : m < 2 ^ n) {k : Nat} (h : k ∈ lanesOf m) : k < n := by
  have h2 := (lanesOf_mem.1 h).2
  refine Nat.lt_of_not_le fun hge => ?_
  rw [testBit_high hm hge] at h2
  cases h2
/-- What the first j lanes of a mask have done. -/
def foldTo {α : Type} (f : α → Nat → α) (m : Nat) (s : α) (j : Nat) : α := ((lanesOf m).take j).foldl f s
theorem foldTo_succ {α : Type} (f : α → Nat → α) {m j k : Nat} (s : α) (h : (lanesOf m)[j]? = some k) : foldTo f m s (j + 1) = f (foldTo f m s j) k := by
  obtain ⟨hj, rfl⟩ := List.getElem?_eq_some_iff.1 h
  unfold foldTo
  rw [List.take_succ_eq_append_getElem hj, List.foldl_append]
  rfl
theorem foldTo_all {α : Type} (f : α → Nat → α) (m : Nat) (s : α) : foldTo f m s (lanesOf m).length = (lanesOf m).foldl f s := by
  unfold foldTo; rw [List.take_length]

def cN (c : List Int) (k : Nat) : Int := c.getD k 0
theorem cN_get {c : List Int} {k : Nat} (h : k < c.length) : c[k]? = some (cN c k) := by
  simp [cN, List.getD_eq_getElem?_getD, List.getElem?_eq_getElem h]
def hotTo (c : List Int) : Nat → Int
  | 0 => -1
  | k + 1 => if 0 < cN c k ∧ (hotTo c k < 0 ∨ cN c (hotTo c k).toNat < cN c k) then (k : Int) else hotTo c k
def hotI (c : List Int) : Int := hotTo c c.length
def Hot (c : List Int) (k : Nat) (b : Int) : Prop :=
  (b = -1 ∧ ∀ j, j < k → cN c j ≤ 0) ∨ (∃ i : Nat, b = (i : Int) ∧ i < k ∧ 0 < cN c i ∧ (∀ j, j < k → cN c j ≤ cN c i) ∧ ∀ j, j < i → cN c j < cN c i)
theorem hotTo_hot (c : List Int) : ∀ k, Hot c k (hotTo c k)
  | 0 => .inl ⟨rfl, fun j hj => by omega⟩
  | k + 1 => by
    have ih := hotTo_hot c k
    simp only [hotTo]
    split
    · rename_i h
      obtain ⟨h1, h2⟩ := h
      refine .inr ⟨k, rfl, by omega, h1, ?_, ?_⟩
      · intro j hj
        by_cases e : j = k
        · subst e; exact Int.le_refl _
        · rcases ih with ⟨hb, h3⟩ | ⟨i, hb, hi, h3, h4, h5⟩
          · have := h3 j (by omega); omega
          · rw [hb] at h2
            simp at h2
            have := h4 j (by omega); omega
      · intro j hj
        rcases ih with ⟨hb, h3⟩ | ⟨i, hb, hi, h3, h4, h5⟩
        · have := h3 j hj; omega
        · rw [hb] at h2
          simp at h2
          have := h4 j hj; omega
    · rename_i h
      rcases ih with ⟨hb, h3⟩ | ⟨i, hb, hi, h3, h4, h5⟩
      · refine .inl ⟨hb, fun j hj => ?_⟩
        by_cases e : j = k
        · subst e
          rw [hb] at h
          simp at h
          exact h
        · exact h3 j (by omega)
      · rw [hb] at h ⊢
        refine .inr ⟨i, rfl, by omega, h3, fun j hj => ?_, h5⟩
        by_cases e : j = k
        · subst e
          simp at h
          by_cases h0 : 0 < cN c j
          · have := h h0; omega
          · omega
        · exact h4 j (by omega)
theorem Hot.eq {c : List Int} {k : Nat} {a b : Int} (ha : Hot c k a) (hb : Hot c k b) : a = b := by
  rcases ha with ⟨rfl, h1⟩ | ⟨i, rfl, h1, h2, h3, h4⟩ <;> rcases hb with ⟨rfl, k1⟩ | ⟨j, rfl, k1, k2, k3, k4⟩
  · rfl
  · have := h1 j k1; omega
  · have := k1 i h1; omega
  · have a1 := h3 j k1
    have a2 := k3 i h1
    rcases Nat.lt_trichotomy i j with h | h | h
    · have := k4 i h; omega
    · rw [h]
    · have := h4 j h; omega
theorem hotTo_lt (c : List Int) (k : Nat) : hotTo c k = -1 ∨ ∃ i : Nat, hotTo c k = (i : Int) ∧ i < k := by
  rcases hotTo_hot c k with ⟨h, _⟩ | ⟨i, h, hi, _⟩
  · exact .inl h
  · exact .inr ⟨i, h, hi⟩

end Go.Proofs.Ytfgbbajkdpideaa
