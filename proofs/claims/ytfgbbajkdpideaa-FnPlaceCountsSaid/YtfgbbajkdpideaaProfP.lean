/- Profiles: plain Lean, no program in sight. -/
import Derived.Test.YtfgbbajkdpideaaSem
namespace Go.Proofs.Ytfgbbajkdpideaa
set_option linter.unusedVariables false
set_option linter.unusedSimpArgs false

def actOf (bs : List (Nat × Nat)) : Nat := (bs.map fun q => (lanesOf q.2).length).sum
def opsOf (l : List Cd) (o : Int) (bs : List (Nat × Nat)) : Nat := bs.countP fun q => (cdAt l q.1).op == o
theorem actOf_snoc (bs : List (Nat × Nat)) (q : Nat × Nat) : actOf (bs ++ [q]) = actOf bs + (lanesOf q.2).length := by simp [actOf]
theorem opsOf_snoc (l : List Cd) (o : Int) (bs : List (Nat × Nat)) (q : Nat × Nat) : opsOf l o (bs ++ [q]) = opsOf l o bs + if (cdAt l q.1).op == o then 1 else 0 := by
  unfold opsOf
  rw [List.countP_append, List.countP_singleton]
theorem actOf_le : ∀ bs : List (Nat × Nat), actOf bs ≤ 8 * bs.length
  | [] => by simp [actOf]
  | q :: bs => by
    have h := actOf_le bs
    have h2 := lanesOf_len q.2
    simp only [actOf, List.map_cons, List.sum_cons, List.length_cons] at h ⊢
    omega
theorem opsOf_le (l : List Cd) (o : Int) (bs : List (Nat × Nat)) : opsOf l o bs ≤ bs.length := List.countP_le_length

noncomputable def occL (l : List Cd) (n : Int) (m : List Int) : Int :=
  if lockOk l n m then if (traceOf l n m).length = 0 then 100 else ((100 * actOf (traceOf l n m) / ((traceOf l n m).length * n.toNat) : Nat) : Int) else -1


/-! ### Lanes of a mask -/
theorem lanes_pos : ∀ m : Nat, m < 256 → 0 < m → 1 ≤ (lanesOf m).length := by decide +kernel
theorem lanes_le : ∀ n : Nat, n < 9 → ∀ m : Nat, m < 2 ^ n → (lanesOf m).length ≤ n := by decide +kernel
theorem act_ge {n : Nat} (hn : n ≤ 8) : ∀ {bs : List (Nat × Nat)}, (∀ q ∈ bs, 0 < q.2 ∧ q.2 < 2 ^ n) → bs.length ≤ actOf bs ∧ actOf bs ≤ bs.length * n
  | [], _ => by simp [actOf]
  | q :: bs, h => by
    have ih := act_ge hn (bs := bs) (fun q hq => h q (List.mem_cons_of_mem _ hq))
    have hq := h q List.mem_cons_self
    have h8 : 2 ^ n ≤ 2 ^ 8 := Nat.pow_le_pow_right (by decide) hn
    have h1 := lanes_pos q.2 (by omega) hq.1
    have h2 := lanes_le n (by omega) q.2 hq.2
    have e : actOf (q :: bs) = (lanesOf q.2).length + actOf bs := by simp [actOf]
    rw [e, List.length_cons, Nat.add_mul, Nat.one_mul]
    omega
theorem ops3_le (l : List Cd) : ∀ bs : List (Nat × Nat), opsOf l 8 bs + opsOf l 9 bs + opsOf l 10 bs ≤ bs.length
  | [] => by simp [opsOf]
  | q :: bs => by
    have ih := ops3_le l bs
    simp only [opsOf, List.countP_cons, List.length_cons] at ih ⊢
    by_cases h8 : (cdAt l q.1).op = 8
    · simp [h8]; omega
    · by_cases h9 : (cdAt l q.1).op = 9
      · simp [h9]; omega
      · by_cases h10 : (cdAt l q.1).op = 10
        · simp [h10]; omega
        · have e8 : ((cdAt l q.1).op == 8) = false := beq_eq_false_iff_ne.2 h8
          have e9 : ((cdAt l q.1).op == 9) = false := beq_eq_false_iff_ne.2 h9
          have e10 : ((cdAt l q.1).op == 10) = false := beq_eq_false_iff_ne.2 h10
          simp only [e8, e9, e10]
          simp
          omega
theorem lock_n {l : List Cd} {n : Int} {m : List Int} (h : lockOk l n m = true) : 1 ≤ n ∧ n ≤ 8 ∧ pv l = true ∧ memOk m = true := by
  simp only [lockOk, Bool.and_eq_true] at h
  have := inR_iff.1 h.2.1
  exact ⟨this.1, this.2, h.1, h.2.2⟩
theorem trace_act {l : List Cd} {n : Int} {m : List Int} (h : lockOk l n m = true) : (traceOf l n m).length ≤ actOf (traceOf l n m) ∧ actOf (traceOf l n m) ≤ (traceOf l n m).length * n.toNat := by
  have hn := lock_n h
  exact act_ge (by omega) fun q hq => (trace_in q hq).2
theorem lock_one {l : List Cd} {n : Int} {m : List Int} (h : lockOk l n m = true) : lockOk l 1 m = true := by
  have hn := lock_n h
  simp only [lockOk, hn.2.2.1, hn.2.2.2, inR_iff.2 (show (1 : Int) ≤ 1 ∧ (1 : Int) ≤ 8 by omega), Bool.and_self]
theorem act_one {l : List Cd} {m : List Int} (h : lockOk l 1 m = true) : actOf (traceOf l 1 m) = (traceOf l 1 m).length := by
  have := trace_act h
  simp at this
  omega
theorem occ_one {l : List Cd} {m : List Int} (h : lockOk l 1 m = true) : occL l 1 m = 100 := by
  unfold occL
  rw [if_pos h, act_one h]
  split
  · rfl
  · simp only [Int.toNat_one, Nat.mul_one]
    rw [Nat.mul_div_cancel _ (by omega)]
    rfl
theorem occ_in {l : List Cd} {n : Int} {m : List Int} (h : lockOk l n m = true) : 1 ≤ occL l n m ∧ occL l n m ≤ 100 := by
  have ha := trace_act h
  have hn := lock_n h
  unfold occL
  rw [if_pos h]
  split
  · omega
  · rename_i h0
    generalize actOf (traceOf l n m) = a at *
    generalize (traceOf l n m).length = k at *
    obtain ⟨j, rfl⟩ : ∃ j : Nat, n = (j : Int) := ⟨n.toNat, by omega⟩
    rw [Int.toNat_natCast] at *
    have hk : 0 < k * j := Nat.mul_pos (by omega) (by omega)
    have h1 : 1 ≤ 100 * a / (k * j) := by
      rw [Nat.le_div_iff_mul_le hk]
      have : k * j ≤ k * 8 := Nat.mul_le_mul_left k (by omega)
      omega
    have h2 : 100 * a / (k * j) ≤ 100 := by
      rw [Nat.div_le_iff_le_mul_add_pred hk]
      have : 100 * a ≤ 100 * (k * j) := Nat.mul_le_mul_left 100 ha.2
      rw [Nat.mul_comm (k * j) 100]
      omega
    omega

/-! ### Programs without blocks -/
theorem flat_full (b : Blk) : ∀ (d p m : Nat) (s : LS), b.ok d → (∀ x ∈ b.flat, x.op ≠ 14) → (∀ q ∈ s.beats, q.2 = m) → ∀ q ∈ (b.run p m s).beats, q.2 = m := by
  induction b with
  | nil => intro d p m s _ _ h; exact h
  | op x r ih =>
    intro d p m s ⟨_, _, _, hr⟩ h0 h
    simp only [Blk.run]
    split
    · exact h
    · refine ih d _ _ _ hr (fun y hy => h0 y (by simp [Blk.flat, hy])) fun q hq => ?_
      rw [execM_beats] at hq
      simp only [beat, List.mem_append, List.mem_singleton] at hq
      rcases hq with hq | rfl
      · exact h q hq
      · rfl
  | iff a t r iht ihr => intro d p m s _ h0; exact absurd rfl (h0 cEnd (by simp [Blk.flat]))
  | ife a t e r iht ihe ihr => intro d p m s _ h0; exact absurd rfl (h0 cEnd (by simp [Blk.flat]))
  | loop a c t r iht ihr => intro d p m s _ h0; exact absurd rfl (h0 cEnd (by simp [Blk.flat]))
theorem lanes_full : ∀ n : Nat, n < 9 → (lanesOf (2 ^ n - 1)).length = n := by decide +kernel
theorem act_full {n : Nat} (hn : n ≤ 8) : ∀ {bs : List (Nat × Nat)}, (∀ q ∈ bs, q.2 = 2 ^ n - 1) → actOf bs = bs.length * n
  | [], _ => by simp [actOf]
  | q :: bs, h => by
    have ih := act_full hn (bs := bs) (fun q hq => h q (List.mem_cons_of_mem _ hq))
    have hq := h q List.mem_cons_self
    have e : actOf (q :: bs) = (lanesOf q.2).length + actOf bs := by simp [actOf]
    rw [e, hq, lanes_full n (by omega), ih, List.length_cons, Nat.add_mul, Nat.one_mul]
    omega
theorem occ_flat {l : List Cd} {n : Int} {m : List Int} (h : lockOk l n m = true) (h0 : countOp l 14 = 0) : occL l n m = 100 := by
  have hn := lock_n h
  obtain ⟨h1, h2⟩ := treeOf_spec hn.2.2.1
  have hno : ∀ x ∈ (treeOf l).flat, x.op ≠ 14 := by
    rw [h2]
    intro x hx he
    have : x ∈ l.filter (fun x => x.op == 14) := List.mem_filter.2 ⟨hx, by simp [he]⟩
    have h3 : l.filter (fun x => x.op == 14) = [] := List.eq_nil_of_length_eq_zero h0
    rw [h3] at this
    cases this
  have hf := flat_full (treeOf l) 3 0 (2 ^ n.toNat - 1) (LS.start n.toNat m) h1 hno (by intro q hq; cases hq)
  have e : actOf (traceOf l n m) = (traceOf l n m).length * n.toNat := by
    refine act_full (by omega) fun q hq => ?_
    unfold traceOf at hq
    rw [if_pos h] at hq
    exact hf q hq
  unfold occL
  rw [if_pos h, e]
  split
  · rfl
  · rename_i hz
    have : 0 < (traceOf l n m).length * n.toNat := Nat.mul_pos (by omega) (by omega)
    rw [Nat.mul_div_cancel _ this]
    rfl

end Go.Proofs.Ytfgbbajkdpideaa
