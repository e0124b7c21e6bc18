/- The reference's DeadPlaces. -/
import Derived.Test.YtoiihjbdcjllbaaLive4
import Derived.Test.YtoiihjbdcjllbaaLock1
import Derived.Test.YtoiihjbdcjllbaaMem2
import Derived.Maps.AppendAt
namespace Go.Proofs.Ytoiihjbdcjllbaa
open Go.RowKit
set_option linter.unusedVariables false
set_option linter.unusedSimpArgs false

theorem deadB_no {l : List Cd} {k : Nat} (h : wset (cdAt l k) = 0) : deadB l k = false := by simp [deadB, h, mdiff_zero]
theorem deadB_bit {l : List Cd} {k a : Nat} (h : wset (cdAt l k) = 2 ^ a) : deadB l k = !(outSet l (liveFix l) k).testBit a := by
  unfold deadB
  rw [h]
  congr 1
  cases hb : (outSet l (liveFix l) k).testBit a with
  | true =>
    rw [beq_iff_eq]
    apply Nat.eq_of_testBit_eq
    intro i
    rw [testBit_mdiff, Nat.testBit_two_pow]
    by_cases e : a = i
    · subst e; simp [hb]
    · simp [e]
  | false =>
    rw [beq_eq_false_iff_ne]
    intro e
    have := congrArg (fun n => n.testBit a) e
    simp [testBit_mdiff, hb] at this
theorem bit_tm0 (m k : Nat) : ((((m : Int) / 2 ^ k).tmod 2) == 0) = !m.testBit k := by
  have h := bit_tm m k
  have e : ((m : Int) / 2 ^ k) = ((m >>> k : Nat) : Int) := by
    rw [Nat.shiftRight_eq_div_pow]; simp
  rw [e, Int.tmod_eq_emod_of_nonneg (Int.natCast_nonneg _)] at h ⊢
  rw [← h]
  generalize m >>> k = q
  have : (q : Int) % 2 = 0 ∨ (q : Int) % 2 = 1 := by omega
  rcases this with h | h <;> rw [h] <;> rfl

/-- append of one number; where the new row lies. -/
theorem app_intA {w : World} {ops : Array Oper} {rest : List Oper} {o : Oper} {a : Act} {Q : Exit → Act → World → Prop} (hgd : o.guard = none) (s x : Operand) (ho : o.op = .call { callee := .builtin .append, args := #[s, x], argTypes := #[24, 24] })
    (base : Nat) (A : Option Addr) (n c : Nat) (xs : List Int) (hown : OI w base A n c xs) (hs : a.eval s = .slice A n c)
    (y : Int) (g cc : Nat) (hx : a.eval x = .slice (some ⟨g, 0, none⟩) 1 cc) (hc : w.cell? ⟨g, 0, none⟩ = some (.int .i64 y)) (hn : n < 1000000000000) (hbase : base ≤ w.heap.size)
    (hK : ∀ A' c' w', OI w' base A' (n + 1) c' (xs ++ [y]) → w.grownBy w' (Value.ownBlock (.slice A n c)) → (Value.ownBlock (.slice A' (n + 1) c') = Value.ownBlock (.slice A n c) ∨ Value.ownBlock (.slice A' (n + 1) c') = some w.heap.size) → wpList Try.prog ops Q rest (a.put o.dst (.slice A' (n + 1) c')) w') :
    wpList Try.prog ops Q (o :: rest) a w := by
  obtain ⟨i0, hi, hz0, hz1, hz2⟩ := info_parts infoInt
  refine wpList_append_own_at _ hgd s x 24 ho base 3 i0 _ 1 8 Try.underlying24 hi hz0 hz1 hz2 rfl (by decide) _ _ _ hs hown ⟨g, 0, none⟩ 1 cc [.int .i64 y] hx rfl ?_ ?_ (by unfold maxLen; omega) (by omega) hbase ?_
  · intro j u hu
    match j, hu with
    | 0, hu => simp at hu; subst hu; rw [add_lit]; exact hc
  · intro u hu; simp at hu; subst hu; rfl
  · intro v' w' hown' hgrow _ hat
    obtain ⟨A', c', rfl, h'⟩ := OR.slice_ hown'
    exact hK A' c' w' (by unfold OI; rw [List.map_append]; exact h') hgrow hat
theorem GOw.keepTo {w w' : World} {base n c m : Nat} {A : Option Addr} {f : Nat → List Int} (h : GOw w base A n c f m) (hk : ∀ k, k < w.heap.size → base ≤ k → w'.heap[k]? = w.heap[k]?) : GOw w' base A n c f m := by
  obtain ⟨vs, h1, h2⟩ := h
  refine ⟨vs, h1.keep hk, fun k hk' => ?_⟩
  obtain ⟨A', c', e, hr⟩ := h2 k hk'
  exact ⟨A', c', e, OR.keep hr hk⟩

def natL (xs : List Nat) : List Int := xs.map fun (k : Nat) => (k : Int)
def DPRel (w w2 : World) (l : List Cd) (ov kv : Value) (wr : World) : Prop :=
  ∃ (k : Nat) (A : Option Addr) (c : Nat), k ≤ l.length ∧ kv = .int .i64 k ∧ ov = .slice A (deadN l k).length c ∧ OI wr w.heap.size A (deadN l k).length c (natL (deadN l k)) ∧ Below w.heap.size w wr ∧
    Hid (∀ b, Value.ownBlock (.slice A (deadN l k).length c) = some b → b = w.heap.size ∨ w2.heap.size ≤ b) ∧ Hid (∀ b, b < w2.heap.size → w.heap.size + 1 ≤ b → wr.heap[b]? = w2.heap[b]?) ∧ w2.heap.size ≤ wr.heap.size

theorem dropF_more : ∀ (n : Nat) (l : List Cd), l.length ≤ n → dropF (n + 1) l = dropF n l
  | 0, l, h => by
    obtain rfl : l = [] := List.eq_nil_of_length_eq_zero (by omega)
    simp [dropF, deadN]
  | n + 1, l, h => by
    by_cases hd : deadN l l.length = []
    · simp [dropF, hd]
    · have hl := keep_lt hd
      have ih := dropF_more n (keepN l l.length) (by omega)
      show (if deadN l l.length = [] then l else dropF (n + 1) (keepN l l.length)) = (if deadN l l.length = [] then l else dropF n (keepN l l.length))
      rw [if_neg hd, if_neg hd, ih]
theorem dropF_from : ∀ (d n : Nat) (l : List Cd), l.length ≤ n → dropF (n + d) l = dropF n l
  | 0, _, _, _ => rfl
  | d + 1, n, l, h => by rw [show n + (d + 1) = (n + d) + 1 by omega, dropF_more (n + d) l (by omega), dropF_from d n l h]
/-- A program until nothing is dead. -/
noncomputable def dropD (l : List Cd) : List Cd := dropF l.length l
theorem dropD_done {l : List Cd} (h : deadN l l.length = []) : dropD l = l := by
  unfold dropD
  cases hn : l.length with
  | zero => rfl
  | succ n => rw [hn] at h; simp [dropF, hn, h]
theorem dropD_more {l : List Cd} (h : deadN l l.length ≠ []) : dropD l = dropD (keepN l l.length) := by
  have hl := keep_lt h
  unfold dropD
  obtain ⟨n, hn⟩ : ∃ n, l.length = n + 1 := ⟨l.length - 1, by omega⟩
  have e : dropF l.length l = dropF n (keepN l l.length) := by
    rw [hn]
    show (if deadN l l.length = [] then l else dropF n (keepN l l.length)) = _
    rw [if_neg h, hn]
  rw [e, show n = (keepN l l.length).length + (n - (keepN l l.length).length) by omega, dropF_from _ _ _ (Nat.le_refl _)]

def DDRel (w : World) (l : List Cd) (xv dv : Value) (wr : World) : Prop :=
  ∃ (X : List Cd) (A : Option Addr) (c : Nat) (Ad : Option Addr) (cd : Nat), xv = .slice A X.length c ∧ dv = .slice Ad (deadL X).length cd ∧ OC wr w.heap.size A X.length c X ∧ RdI wr wr.heap.size Ad (deadL X) ∧ Below w.heap.size w wr ∧
    Hid (pv X = true) ∧ Hid (dropD l = dropD X) ∧ X.length ≤ 40

def DIRel (wo : World) (X : List Cd) (yv av kv : Value) (wr : World) : Prop :=
  ∃ (k : Nat) (A : Option Addr) (c : Nat), k ≤ X.length ∧ kv = .int .i64 k ∧ av = .int .i64 (deadN X k).length ∧ yv = .slice A (keepN X k).length c ∧ OC wr wo.heap.size A (keepN X k).length c (keepN X k) ∧ Below wo.heap.size wo wr

end Go.Proofs.Ytoiihjbdcjllbaa
