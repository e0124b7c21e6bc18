/- Live sets of a longer program, and of one without stores and blocks: plain Lean, no program in sight. -/
import Derived.Test.YtcaibhjdahmjeaaDeadLaw2
namespace Go.Proofs.Ytcaibhjdahmjeaa
set_option linter.unusedVariables false
set_option linter.unusedSimpArgs false

theorem scanE_app (r : List Cd) : ∀ (a : List Cd) (k d : Nat) (o : Int), (scanE a k d o).1 ≠ -1 → scanE (a ++ r) k d o = scanE a k d o
  | [], k, d, o, h => absurd rfl h
  | x :: a, k, d, o, h => by
    simp only [scanE, List.cons_append] at h ⊢
    split
    · rename_i h1
      rw [if_pos h1] at h
      exact scanE_app r a _ _ _ h
    · rename_i h1
      rw [if_neg h1] at h
      split
      · rename_i h2
        rw [if_pos h2] at h
        exact scanE_app r a _ _ _ h
      · rename_i h2
        rw [if_neg h2] at h
        split
        · rfl
        · rename_i h3
          rw [if_neg h3] at h
          split
          · rename_i h4
            rw [if_pos h4] at h
            exact scanE_app r a _ _ _ h
          · rename_i h4
            rw [if_neg h4] at h
            exact scanE_app r a _ _ _ h
theorem scanA_app (l r : List Cd) : ∀ (n d : Nat), n ≤ l.length → scanA (l ++ r) n d = scanA l n d
  | 0, _, _ => rfl
  | n + 1, d, h => by
    have e : (l ++ r)[n]? = l[n]? := List.getElem?_append_left (by omega)
    simp only [scanA, e]
    cases l[n]? with
    | none => rfl
    | some x =>
      simp only
      split
      · cases d with
        | zero => rfl
        | succ d => exact scanA_app l r n d (by omega)
      · split
        · exact scanA_app l r n _ (by omega)
        · exact scanA_app l r n _ (by omega)
theorem endOf_app {l : List Cd} (hp : pv l = true) (r : List Cd) {k : Nat} {x : Cd} (hx : l[k]? = some x) (ho : opB x = true) : endOf (l ++ r) k = endOf l k := by
  obtain ⟨hk, -⟩ := List.getElem?_eq_some_iff.1 hx
  obtain ⟨e, h1, -, -⟩ := end_bound hp hx ho
  unfold endOf at h1 ⊢
  rw [List.drop_append_of_le_length (by omega), scanE_app]
  rw [h1]; omega
theorem around_app (l r : List Cd) {k : Nat} (hk : k ≤ l.length) : aroundN (l ++ r) k = aroundN l k := by
  unfold aroundN aroundOf
  rw [scanA_app l r k 0 hk]
theorem opAt_app {l : List Cd} (r : List Cd) {k : Nat} (hk : k < l.length) : opAt (l ++ r) k = opAt l k := by
  simp only [opAt, List.getElem?_append_left hk]
theorem cdAt_app {l : List Cd} (r : List Cd) {k : Nat} (hk : k < l.length) : cdAt (l ++ r) k = cdAt l k := by
  simp only [cdAt, List.getElem?_append_left hk]
theorem opB_at {l : List Cd} {k : Nat} {x : Cd} (hx : l[k]? = some x) (h : opAt l k = 11 ∨ opAt l k = 13) : opB x = true := by
  rw [opAt_get hx] at h
  unfold opB
  rcases h with h | h <;> simp [h]
theorem succs_app {l : List Cd} (hp : pv l = true) (r : List Cd) {k : Nat} (hk : k < l.length) : succs (l ++ r) k = succs l k := by
  have hx : l[k]? = some l[k] := List.getElem?_eq_getElem hk
  unfold succs
  rw [opAt_app r hk]
  by_cases h1 : (opAt l k == 11 || opAt l k == 13) = true
  · rw [if_pos h1, if_pos h1]
    have ho : opB l[k] = true := opB_at hx (by simpa using h1)
    have e : overN (l ++ r) k = overN l k := by unfold overN elseAt endN; rw [endOf_app hp r hx ho]
    rw [e]
  · rw [if_neg h1, if_neg h1]
    by_cases h2 : (opAt l k == 12) = true
    · rw [if_pos h2, if_pos h2]
      have h12 : (l[k]).op = 12 := by rw [← opAt_get hx]; exact beq_iff_eq.1 h2
      obtain ⟨a1, a2, a3⟩ := around_in hp hx (.inl h12)
      have ha : aroundN l k < l.length := by omega
      have hy : l[aroundN l k]? = some (cdAt l (aroundN l k)) := by unfold cdAt; rw [List.getElem?_eq_getElem ha]
      rw [around_app l r (by omega)]
      unfold endN
      rw [endOf_app hp r hy a3]
    · rw [if_neg h2, if_neg h2]
      by_cases h3 : (opAt l k == 14) = true
      · rw [if_pos h3, if_pos h3]
        have h14 : (l[k]).op = 14 := by rw [← opAt_get hx]; exact beq_iff_eq.1 h3
        obtain ⟨a1, a2, a3⟩ := around_in hp hx (.inr h14)
        rw [around_app l r (by omega), opAt_app r (by omega)]
      · rw [if_neg h3, if_neg h3]
theorem loopSet_app {l : List Cd} (hp : pv l = true) (r : List Cd) {k : Nat} (hk : k < l.length) : loopSet (l ++ r) k = loopSet l k := by
  have hx : l[k]? = some l[k] := List.getElem?_eq_getElem hk
  unfold loopSet
  rw [opAt_app r hk, around_app l r (by omega)]
  by_cases h3 : opAt l k = 14
  · have h14 : (l[k]).op = 14 := by rw [← opAt_get hx]; exact h3
    obtain ⟨a1, a2, a3⟩ := around_in hp hx (.inr h14)
    rw [opAt_app r (by omega), cdAt_app r (by omega)]
  · have e : (opAt l k == 14) = false := beq_eq_false_iff_ne.2 h3
    rw [e]; rfl
theorem liveAt_app {l : List Cd} (hp : pv l = true) (r : List Cd) (t : Nat → Nat) {k : Nat} (hk : k < l.length) : liveAt (l ++ r) t k = liveAt l t k := by
  unfold liveAt outSet
  rw [succs_app hp r hk, cdAt_app r hk, loopSet_app hp r hk]
/-- A longer program has no smaller sets. -/
theorem live_more {l r : List Cd} (hp : pv l = true) (hq : pv (l ++ r) = true) : ∀ k, sub (liveFix l k) (liveFix (l ++ r) k) := by
  have h1 := fix_is hp
  have h2 := fix_is hq
  refine h1.1.low (liveFix (l ++ r)) fun k hk => ?_
  rw [← liveAt_app hp r _ hk, ← fix_eq h2 (by simp; omega)]
  exact sub.refl _
def cStore (a b : Nat) : Cd := ⟨9, a, b, 0⟩
theorem store_pv {l : List Cd} (hp : pv l = true) (h40 : l.length < 40) {a b : Nat} (ha : a ≤ 3) (hb : b ≤ 3) : pv (l ++ [cStore a b]) = true := by
  have h := pv_iff.1 hp
  refine pv_iff.2 ⟨by simp; omega, ?_⟩
  rw [pvRun_append, h.2]
  have : ∀ a b : Fin 4, pvRun [] [cStore a.1 b.1] = some [] := by decide +kernel
  exact this ⟨a, by omega⟩ ⟨b, by omega⟩
theorem store_set {l : List Cd} {a b : Nat} (hq : pv (l ++ [cStore a b]) = true) (ha : a ≤ 3) (hb : b ≤ 3) : liveFix (l ++ [cStore a b]) l.length = 2 ^ a ||| 2 ^ b := by
  have h2 := fix_is hq
  have hx : (l ++ [cStore a b])[l.length]? = some (cStore a b) := by simp
  rw [fix_eq h2 (by simp), liveAt, cdAt_get hx]
  have ho : outSet (l ++ [cStore a b]) (liveFix (l ++ [cStore a b])) l.length = 0 := by
    rw [outSet, succs_op hx (by simp [cStore])]
    simp only [List.foldl_cons, List.foldl_nil]
    rw [h2.1.out _ (by simp)]
    rfl
  have hl : loopSet (l ++ [cStore a b]) l.length = 0 := by
    unfold loopSet
    rw [opAt_get hx]
    rfl
  rw [ho, hl]
  have : ∀ a b : Fin 4, mdiff 0 (wset (cStore a.1 b.1)) ||| reads (cStore a.1 b.1) ||| 0 = 2 ^ a.1 ||| 2 ^ b.1 := by decide +kernel
  exact this ⟨a, by omega⟩ ⟨b, by omega⟩

/-! ### Without stores and blocks -/
def mostTo (l : List Cd) (s : Nat → Nat) : Nat → Nat
  | 0 => 0
  | n + 1 => max (mostTo l s n) (lanesOf (s n)).length
noncomputable def mostL (l : List Cd) : Int := if pv l then (mostTo l (liveFix l) (l.length + 1) : Int) else -1
theorem lanes4 : ∀ m : Nat, m < 16 → (lanesOf m).length ≤ 4 := by decide +kernel
theorem mostTo_le {l : List Cd} {s : Nat → Nat} (hs : ∀ k, s k < 16) : ∀ n, mostTo l s n ≤ 4
  | 0 => by simp [mostTo]
  | n + 1 => by
    simp only [mostTo]
    have h1 := mostTo_le (l := l) hs n
    have h2 := lanes4 _ (hs n)
    exact Nat.max_le.2 ⟨h1, h2⟩
theorem mostTo_zero {l : List Cd} {s : Nat → Nat} (hs : ∀ k, s k = 0) : ∀ n, mostTo l s n = 0
  | 0 => rfl
  | n + 1 => by
    simp only [mostTo, mostTo_zero hs n, hs n]
    rfl
theorem most_law {l : List Cd} (hp : pv l = true) : mostL l = (mostTo l (liveFix l) (l.length + 1) : Int) ∧ mostTo l (liveFix l) (l.length + 1) ≤ 4 :=
  ⟨by simp [mostL, hp], mostTo_le (fix_is hp).1.b16 _⟩
theorem plain_ops {l : List Cd} (hp : pv l = true) (h9 : countOp l 9 = 0) (h14 : countOp l 14 = 0) {x : Cd} (hx : x ∈ l) : (1 ≤ x.op ∧ x.op ≤ 8) ∨ x.op = 10 := by
  have no : ∀ o : Int, countOp l o = 0 → x.op ≠ o := fun o h e => by
    have h1 : x ∈ l.filter (fun x => x.op == o) := List.mem_filter.2 ⟨hx, by simp [e]⟩
    rw [List.eq_nil_of_length_eq_zero h] at h1
    cases h1
  obtain ⟨b, hb⟩ := (pv_tree.1 hp).2
  have hflat : ∀ (b : Blk) (d : Nat), b.ok d → (∀ y ∈ b.flat, y.op ≠ 14) → ∀ y ∈ b.flat, 1 ≤ y.op ∧ y.op ≤ 10 := by
    intro b
    induction b with
    | nil => intro d _ _ y hy; cases hy
    | op z r ih =>
      intro d ⟨_, q1, q2, hr⟩ hn y hy
      simp only [Blk.flat, List.mem_cons] at hy
      rcases hy with rfl | hy
      · exact ⟨q1, q2⟩
      · exact ih d hr (fun w hw => hn w (by simp [Blk.flat, hw])) y hy
    | iff a t r iht ihr => intro d _ hn; exact absurd rfl (hn cEnd (by simp [Blk.flat]))
    | ife a t e r iht ihe ihr => intro d _ hn; exact absurd rfl (hn cEnd (by simp [Blk.flat]))
    | loop a c t r iht ihr => intro d _ hn; exact absurd rfl (hn cEnd (by simp [Blk.flat]))
  have hno : ∀ y ∈ b.flat, y.op ≠ 14 := by
    rw [hb.2]
    intro y hy e
    have h1 : y ∈ l.filter (fun x => x.op == 14) := List.mem_filter.2 ⟨hy, by simp [e]⟩
    rw [List.eq_nil_of_length_eq_zero h14] at h1
    cases h1
  have := hflat b 3 hb.1 hno x (by rw [hb.2]; exact hx)
  have n9 := no 9 h9
  omega
/-- Nothing is dead, so nothing is there but barriers. -/
theorem plain_zero {l : List Cd} (hp : pv l = true) (h9 : countOp l 9 = 0) (h14 : countOp l 14 = 0) (hd : deadN l l.length = []) : ∀ k, liveFix l k = 0 := by
  have hF := fix_is hp
  have main : ∀ j, j ≤ l.length → liveFix l (l.length - j) = 0 := by
    intro j
    induction j with
    | zero => intro _; exact hF.1.out _ (by omega)
    | succ j ih =>
      intro hj
      have ih := ih (by omega)
      have hk : l.length - (j + 1) < l.length := by omega
      generalize hkk : l.length - (j + 1) = k at hk
      have e : l.length - j = k + 1 := by omega
      rw [e] at ih
      have hx : l[k]? = some l[k] := List.getElem?_eq_getElem hk
      have ho := plain_ops hp h9 h14 (List.getElem_mem hk)
      have hv := pv_all hp _ (List.getElem_mem hk)
      have hout : outSet l (liveFix l) k = 0 := by
        rw [outSet, succs_op hx (by omega)]
        simp [ih]
      have hdead : deadB l k = false := by
        cases h : deadB l k with
        | false => rfl
        | true =>
          have : k ∈ deadN l l.length := deadN_mem.2 ⟨hk, h⟩
          rw [hd] at this
          cases this
      rcases ho with ho | ho
      · exfalso
        have hw : wset l[k] = 2 ^ (l[k]).a.toNat := by unfold wset; rw [hv, inR_iff.2 ho]; rfl
        unfold deadB at hdead
        rw [hout, cdAt_get hx, hw, mdiff_zero'] at hdead
        have : 0 < 2 ^ (l[k]).a.toNat := Nat.pow_pos (by decide)
        simp at hdead
      · rw [fix_eq hF hk, liveAt, hout, cdAt_get hx]
        have h1 : reads l[k] = 0 := by unfold reads; simp [ho]
        have h2 : loopSet l k = 0 := by unfold loopSet; rw [opAt_get hx, ho]; rfl
        rw [h1, h2, mdiff_zero]
        rfl
  intro k
  by_cases hk : k ≤ l.length
  · have := main (l.length - k) (by omega)
    rwa [show l.length - (l.length - k) = k by omega] at this
  · exact hF.1.out _ (by omega)
theorem most_plain {l : List Cd} (hp : pv l = true) (h9 : countOp l 9 = 0) (h14 : countOp l 14 = 0) : mostL (dropDeadL l) = 0 := by
  have hq := dropDeadL_ok hp
  have hz := plain_zero hq (by rw [dropDead_count hp (by omega)]; exact h9) (by rw [dropDead_count hp (by omega)]; exact h14) (dropDead_none hp)
  rw [(most_law hq).1, mostTo_zero hz]
  rfl

end Go.Proofs.Ytcaibhjdahmjeaa
