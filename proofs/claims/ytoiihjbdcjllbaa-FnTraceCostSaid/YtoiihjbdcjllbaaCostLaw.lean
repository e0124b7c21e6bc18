/- Costs: plain Lean, no program in sight. -/
import Derived.Test.YtoiihjbdcjllbaaHotLaw
namespace Go.Proofs.Ytoiihjbdcjllbaa
set_option linter.unusedVariables false
set_option linter.unusedSimpArgs false

/-- What a step of a valid instruction costs. -/
def costN (x : Cd) : Nat := if x.op == 4 then 2 else if x.op == 8 || x.op == 9 then 4 else if x.op == 12 || x.op == 14 then 0 else 1
def costI (x : Cd) : Int := if cvOk x then (costN x : Int) else -1
/-- What the steps cost in which some lane of the mask is active. -/
def costOf (l : List Cd) (m : Nat) (bs : List (Nat × Nat)) : Nat := (bs.map fun q => if q.2 &&& m = 0 then 0 else costN (cdAt l q.1)).sum
theorem costOf_snoc (l : List Cd) (m : Nat) (bs : List (Nat × Nat)) (q : Nat × Nat) : costOf l m (bs ++ [q]) = costOf l m bs + if q.2 &&& m = 0 then 0 else costN (cdAt l q.1) := by simp [costOf]
theorem costN_le (x : Cd) : costN x ≤ 4 := by
  unfold costN
  split
  · omega
  · split
    · omega
    · split <;> omega
theorem costOf_le (l : List Cd) (m : Nat) : ∀ bs : List (Nat × Nat), costOf l m bs ≤ 4 * bs.length
  | [] => by simp [costOf]
  | q :: bs => by
    have h := costOf_le l m bs
    have h2 := costN_le (cdAt l q.1)
    simp only [costOf, List.map_cons, List.sum_cons, List.length_cons] at h ⊢
    split <;> omega
theorem cost_lane {l : List Cd} {n m : Nat} : ∀ {bs : List (Nat × Nat)}, (∀ q ∈ bs, 0 < q.2 ∧ q.2 < 2 ^ n) → costOf l m bs ≤ costOf l (2 ^ n - 1) bs
  | [], _ => Nat.le_refl _
  | q :: bs, h => by
    have ih := cost_lane (l := l) (m := m) (bs := bs) (fun q hq => h q (List.mem_cons_of_mem _ hq))
    have hq := h q List.mem_cons_self
    have hf : ¬ (q.2 &&& (2 ^ n - 1) = 0) := by
      rw [Nat.and_two_pow_sub_one_eq_mod, Nat.mod_eq_of_lt hq.2]; omega
    simp only [costOf, List.map_cons, List.sum_cons] at ih ⊢
    rw [if_neg hf]
    split <;> omega
theorem cost_full {l : List Cd} {n : Nat} : ∀ {bs : List (Nat × Nat)}, (∀ q ∈ bs, 0 < q.2 ∧ q.2 < 2 ^ n) → costOf l (2 ^ n - 1) bs = (bs.map fun q => costN (cdAt l q.1)).sum
  | [], _ => rfl
  | q :: bs, h => by
    have ih := cost_full (l := l) (bs := bs) (fun q hq => h q (List.mem_cons_of_mem _ hq))
    have hq := h q List.mem_cons_self
    have hf : ¬ (q.2 &&& (2 ^ n - 1) = 0) := by
      rw [Nat.and_two_pow_sub_one_eq_mod, Nat.mod_eq_of_lt hq.2]; omega
    simp only [costOf, List.map_cons, List.sum_cons] at ih ⊢
    rw [if_neg hf, ih]
theorem sumTo_at (c : Nat → Nat) (p : Nat) : ∀ n, sumTo (fun k => if p == k then c k else 0) n = if p < n then c p else 0
  | 0 => by simp [sumTo]
  | n + 1 => by
    simp only [sumTo, sumTo_at c p n]
    by_cases e : p = n
    · subst e; simp
    · have e1 : (p == n) = false := beq_eq_false_iff_ne.2 e
      have e2 : (p < n + 1) = (p < n) := by simp; omega
      simp [e1, e2]
theorem sum_weight (c : Nat → Nat) (n : Nat) : ∀ bs : List (Nat × Nat), (∀ q ∈ bs, q.1 < n) → sumTo (fun k => countAt bs k * c k) n = (bs.map fun q => c q.1).sum
  | [], _ => by
    rw [sumTo_congr n (h := fun _ => 0) (fun k _ => by simp [countAt]), sumTo_zero]
    rfl
  | q :: bs, h => by
    have ih := sum_weight c n bs (fun q hq => h q (List.mem_cons_of_mem _ hq))
    have hq := h q List.mem_cons_self
    rw [sumTo_congr n (h := fun k => (if q.1 == k then c k else 0) + countAt bs k * c k) (fun k _ => by
      rw [countAt_cons, Nat.add_mul]
      cases q.1 == k <;> simp), sumTo_add, sumTo_at, ih]
    simp [hq]
noncomputable def costL (l : List Cd) (n : Int) (m : List Int) : Int := if lockOk l n m then (costOf l (2 ^ n.toNat - 1) (traceOf l n m) : Int) else -1
theorem cost_law {l : List Cd} {n : Int} {m : List Int} (h : lockOk l n m = true) : sumTo (fun k => countAt (traceOf l n m) k * costN (cdAt l k)) l.length = costOf l (2 ^ n.toNat - 1) (traceOf l n m) ∧ ∀ k : Nat, costOf l (2 ^ k) (traceOf l n m) ≤ costOf l (2 ^ n.toNat - 1) (traceOf l n m) := by
  have h1 : ∀ q ∈ traceOf l n m, 0 < q.2 ∧ q.2 < 2 ^ n.toNat := fun q hq => (trace_in q hq).2
  refine ⟨?_, fun k => cost_lane h1⟩
  rw [cost_full h1]
  exact sum_weight (fun k => costN (cdAt l k)) l.length _ (fun q hq => (trace_in q hq).1)

end Go.Proofs.Ytoiihjbdcjllbaa
