/- Counts of places: plain Lean, no program in sight. -/
import Derived.Test.YtfgbbajkdpideaaProfP
namespace Go.Proofs.Ytfgbbajkdpideaa
set_option linter.unusedVariables false
set_option linter.unusedSimpArgs false

def sumTo (g : Nat → Nat) : Nat → Nat
  | 0 => 0
  | n + 1 => sumTo g n + g n
theorem sumTo_add (g h : Nat → Nat) : ∀ n, sumTo (fun k => g k + h k) n = sumTo g n + sumTo h n
  | 0 => rfl
  | n + 1 => by simp only [sumTo, sumTo_add g h n]; omega
theorem sumTo_congr {g h : Nat → Nat} : ∀ n, (∀ k, k < n → g k = h k) → sumTo g n = sumTo h n
  | 0, _ => rfl
  | n + 1, e => by simp only [sumTo, sumTo_congr n (fun k hk => e k (by omega)), e n (by omega)]
theorem sumTo_zero : ∀ n, sumTo (fun _ => 0) n = 0
  | 0 => rfl
  | n + 1 => by simp [sumTo, sumTo_zero n]
theorem sumTo_one (f : Nat → Bool) (p : Nat) : ∀ n, sumTo (fun k => if f k && p == k then 1 else 0) n = if p < n && f p then 1 else 0
  | 0 => by simp [sumTo]
  | n + 1 => by
    simp only [sumTo, sumTo_one f p n]
    by_cases e : p = n
    · subst e
      cases f p <;> simp
    · have e1 : (p == n) = false := beq_eq_false_iff_ne.2 e
      have e2 : (p < n + 1) = (p < n) := by simp; omega
      simp [e1, e2]
theorem countAt_cons (q : Nat × Nat) (bs : List (Nat × Nat)) (k : Nat) : countAt (q :: bs) k = (if q.1 == k then 1 else 0) + countAt bs k := by
  unfold countAt
  rw [List.filter_cons]
  split <;> simp <;> omega
theorem sum_counts (f : Nat → Bool) (n : Nat) : ∀ bs : List (Nat × Nat), (∀ q ∈ bs, q.1 < n) → sumTo (fun k => if f k then countAt bs k else 0) n = bs.countP fun q => f q.1
  | [], _ => by
    rw [sumTo_congr n (h := fun _ => 0) (fun k _ => by simp [countAt]), sumTo_zero]
    rfl
  | q :: bs, h => by
    have ih := sum_counts f n bs (fun q hq => h q (List.mem_cons_of_mem _ hq))
    have hq := h q List.mem_cons_self
    rw [sumTo_congr n (h := fun k => (if f k && q.1 == k then 1 else 0) + (if f k then countAt bs k else 0)) (fun k _ => by
      rw [countAt_cons]
      cases f k <;> simp), sumTo_add, sumTo_one, ih, List.countP_cons]
    simp [hq]
    omega
theorem sum_all {n : Nat} {bs : List (Nat × Nat)} (h : ∀ q ∈ bs, q.1 < n) : sumTo (countAt bs) n = bs.length := by
  have := sum_counts (fun _ => true) n bs h
  simpa using this
theorem sum_ops (l : List Cd) (o : Int) {bs : List (Nat × Nat)} (h : ∀ q ∈ bs, q.1 < l.length) : sumTo (fun k => if (cdAt l k).op == o then countAt bs k else 0) l.length = opsOf l o bs := sum_counts (fun k => (cdAt l k).op == o) l.length bs h

/-! ### Some step -/
theorem turns_grow {f : Nat → LS → LS} (hf : ∀ m s, ∃ r, (f m s).beats = s.beats ++ r) (a : Int) : ∀ (b m : Nat) (s : LS), ∃ r, (turnsOf f a b m s).beats = s.beats ++ r
  | 0, _, s => ⟨[], by simp [turnsOf]⟩
  | b + 1, m, s => by
    simp only [turnsOf]
    obtain ⟨r1, h1⟩ := hf (onesOf m a s) s
    obtain ⟨r2, h2⟩ := turns_grow hf a b (onesOf m a s) (f (onesOf m a s) s)
    exact ⟨r1 ++ r2, by rw [h2, h1, List.append_assoc]⟩
theorem run_grow (b : Blk) : ∀ (p m : Nat) (s : LS), ∃ r, (b.run p m s).beats = s.beats ++ r := by
  induction b with
  | nil => intro p m s; exact ⟨[], by simp [Blk.run]⟩
  | op x r ih =>
    intro p m s
    simp only [Blk.run]
    split
    · exact ⟨[], by simp⟩
    · obtain ⟨r1, h1⟩ := ih (p + 1) m (execM x m (beat p m s))
      exact ⟨[(p, m)] ++ r1, by rw [h1, execM_beats]; simp [beat]⟩
  | iff a t r iht ihr =>
    intro p m s
    simp only [Blk.run]
    split
    · exact ⟨[], by simp⟩
    · obtain ⟨r1, h1⟩ := iht (p + 1) (onesOf m a s) (beat p m s)
      obtain ⟨r2, h2⟩ := ihr (p + t.flat.length + 2) m (t.run (p + 1) (onesOf m a s) (beat p m s))
      exact ⟨[(p, m)] ++ r1 ++ r2, by rw [h2, h1]; simp [beat]⟩
  | ife a t e r iht ihe ihr =>
    intro p m s
    simp only [Blk.run]
    split
    · exact ⟨[], by simp⟩
    · obtain ⟨r1, h1⟩ := iht (p + 1) (onesOf m a s) (beat p m s)
      obtain ⟨r2, h2⟩ := ihe (p + t.flat.length + 2) (mdiff m (onesOf m a s)) (t.run (p + 1) (onesOf m a s) (beat p m s))
      obtain ⟨r3, h3⟩ := ihr (p + t.flat.length + e.flat.length + 3) m (e.run (p + t.flat.length + 2) (mdiff m (onesOf m a s)) (t.run (p + 1) (onesOf m a s) (beat p m s)))
      exact ⟨[(p, m)] ++ r1 ++ r2 ++ r3, by rw [h3, h2, h1]; simp [beat]⟩
  | loop a c t r iht ihr =>
    intro p m s
    simp only [Blk.run]
    split
    · exact ⟨[], by simp⟩
    · obtain ⟨r1, h1⟩ := turns_grow (f := fun m s => t.run (p + 1) m s) (fun m s => iht (p + 1) m s) a c.toNat m (beat p m s)
      obtain ⟨r2, h2⟩ := ihr (p + t.flat.length + 2) m (turnsOf (fun m s => t.run (p + 1) m s) a c.toNat m (beat p m s))
      exact ⟨[(p, m)] ++ r1 ++ r2, by rw [h2, h1]; simp [beat]⟩
theorem run_first (b : Blk) (hb : b.flat ≠ []) (p m : Nat) (hm : m ≠ 0) (s : LS) : ∃ r, (b.run p m s).beats = s.beats ++ (p, m) :: r := by
  cases b with
  | nil => exact absurd rfl hb
  | op x r =>
    obtain ⟨r1, h1⟩ := run_grow r (p + 1) m (execM x m (beat p m s))
    exact ⟨r1, by simp only [Blk.run, if_neg hm]; rw [h1, execM_beats]; simp [beat]⟩
  | iff a t r =>
    obtain ⟨r1, h1⟩ := run_grow t (p + 1) (onesOf m a s) (beat p m s)
    obtain ⟨r2, h2⟩ := run_grow r (p + t.flat.length + 2) m (t.run (p + 1) (onesOf m a s) (beat p m s))
    exact ⟨r1 ++ r2, by simp only [Blk.run, if_neg hm]; rw [h2, h1]; simp [beat]⟩
  | ife a t e r =>
    obtain ⟨r1, h1⟩ := run_grow t (p + 1) (onesOf m a s) (beat p m s)
    obtain ⟨r2, h2⟩ := run_grow e (p + t.flat.length + 2) (mdiff m (onesOf m a s)) (t.run (p + 1) (onesOf m a s) (beat p m s))
    obtain ⟨r3, h3⟩ := run_grow r (p + t.flat.length + e.flat.length + 3) m (e.run (p + t.flat.length + 2) (mdiff m (onesOf m a s)) (t.run (p + 1) (onesOf m a s) (beat p m s)))
    exact ⟨r1 ++ r2 ++ r3, by simp only [Blk.run, if_neg hm]; rw [h3, h2, h1]; simp [beat]⟩
  | loop a c t r =>
    obtain ⟨r1, h1⟩ := turns_grow (f := fun m s => t.run (p + 1) m s) (fun m s => run_grow t (p + 1) m s) a c.toNat m (beat p m s)
    obtain ⟨r2, h2⟩ := run_grow r (p + t.flat.length + 2) m (turnsOf (fun m s => t.run (p + 1) m s) a c.toNat m (beat p m s))
    exact ⟨r1 ++ r2, by simp only [Blk.run, if_neg hm]; rw [h2, h1]; simp [beat]⟩
theorem count_first {l : List Cd} {n : Int} {m : List Int} (h : lockOk l n m = true) (h0 : l.length ≠ 0) : 0 < cN (countsL l n m) 0 := by
  have hn := lock_n h
  obtain ⟨h1, h2⟩ := treeOf_spec hn.2.2.1
  have hk : 2 ^ n.toNat - 1 ≠ 0 := by
    have : 2 ^ 1 ≤ 2 ^ n.toNat := Nat.pow_le_pow_right (by decide) (by omega)
    omega
  obtain ⟨r, hr⟩ := run_first (treeOf l) (by rw [h2]; intro e; rw [e] at h0; exact h0 rfl) 0 (2 ^ n.toNat - 1) hk (LS.start n.toNat m)
  have ht : traceOf l n m = (0, 2 ^ n.toNat - 1) :: r := by
    unfold traceOf
    rw [if_pos h]
    show ((treeOf l).run 0 (2 ^ n.toNat - 1) (LS.start n.toNat m)).beats = _
    rw [hr]
    rfl
  unfold cN countsL
  rw [if_pos h, List.getD_eq_getElem?_getD, countRow_get _ (by omega), ht, countAt_cons]
  simp
  omega
theorem hot_law {l : List Cd} {n : Int} {m : List Int} : (hotI (countsL l n m) < 0 → hotI (countsL l n m) = -1 ∧ (l.length = 0 ∨ lockOk l n m = false)) ∧
    (∀ k : Nat, hotI (countsL l n m) = (k : Int) → k < l.length ∧ k < (countsL l n m).length ∧ (∀ j, j < (countsL l n m).length → cN (countsL l n m) j ≤ cN (countsL l n m) k) ∧ ∀ j, j < k → cN (countsL l n m) j < cN (countsL l n m) k) := by
  have H := hotTo_hot (countsL l n m) (countsL l n m).length
  have hlen := countsL_len l n m
  constructor
  · intro h
    rcases H with ⟨h1, h2⟩ | ⟨i, h1, _⟩
    · refine ⟨h1, ?_⟩
      by_cases h0 : l.length = 0
      · exact .inl h0
      · right
        cases hok : lockOk l n m with
        | false => rfl
        | true =>
          have h3 := count_first hok h0
          have h4 : (countsL l n m).length = l.length := by unfold countsL; rw [if_pos hok, countRow_len]
          have := h2 0 (by omega)
          omega
    · unfold hotI at h; rw [h1] at h; omega
  · intro k hk
    rcases H with ⟨h1, h2⟩ | ⟨i, h1, h2, h3, h4, h5⟩
    · unfold hotI at hk; rw [h1] at hk; omega
    · unfold hotI at hk
      rw [h1] at hk
      obtain rfl : i = k := by omega
      exact ⟨by omega, h2, h4, h5⟩

end Go.Proofs.Ytfgbbajkdpideaa
