/- Live sets as the least solution, and what is dropped: plain Lean, no program in sight. -/
import Derived.Test.YtakeacndmnnbmaaGreatSyn
namespace Go.Proofs.YtakeacndmnnbmaaGreat
set_option linter.unusedVariables false
set_option linter.unusedSimpArgs false

/-! ### Every place of a valid program has its stack of blocks -/
theorem pv_pre {l : List Cd} (h : pv l = true) (k : Nat) : ∃ s, pvRun [] (l.take k) = some s := by
  have hp := (pv_iff.1 h).2
  rw [← List.take_append_drop k l, pvRun_append] at hp
  cases hs : pvRun [] (l.take k) with
  | none => rw [hs] at hp; cases hp
  | some s => exact ⟨s, rfl⟩
theorem pv_step {l : List Cd} (h : pv l = true) {k : Nat} {x : Cd} (hx : l[k]? = some x) {s : List Int} (hs : pvRun [] (l.take k) = some s) : ∃ t, pvStep s x = some t := by
  obtain ⟨t, ht⟩ := pv_pre h (k + 1)
  obtain ⟨hk, rfl⟩ := List.getElem?_eq_some_iff.1 hx
  rw [List.take_succ_eq_append_getElem hk, pvRun_append, hs] at ht
  simp only [pvRun] at ht
  cases hq : pvStep s l[k] with
  | none => rw [hq] at ht; cases ht
  | some t => exact ⟨t, rfl⟩
theorem pinv_at {l : List Cd} (h : pv l = true) : ∀ k, k ≤ l.length → ∃ st oth en, PInv l k st oth en
  | 0, _ => ⟨_, _, _, PInv.start l⟩
  | k + 1, hk => by
    obtain ⟨st, oth, en, hP⟩ := pinv_at h k (by omega)
    have hx : l[k]? = some (cdAt l k) := by unfold cdAt; rw [List.getElem?_eq_getElem (by omega)]
    have hv : cvOk (cdAt l k) = true := pv_all h _ (List.mem_of_getElem? hx)
    obtain ⟨t, ht⟩ := pv_step h hx hP.pvs
    generalize cdAt l k = x at hx hv ht
    rcases pvStep_len ht with ⟨ho, he⟩ | ⟨ho, h12, hl, h0⟩ | ⟨ho, h14, hl⟩ | ⟨ho, h12, h14, he⟩
    · have h3 : st.length < 3 := by
        have ho' : x.op = 11 ∨ x.op = 13 := by simpa [opB] using ho
        rcases ho' with ho' | ho' <;> simp [pvStep, hv, ho'] at ht <;> exact ht.1
      exact ⟨_, _, _, hP.open_ hx hv ho h3⟩
    · cases st with
      | nil => simp at h0
      | cons p st =>
        have hm : mark l oth p = 11 := by
          simp [pvStep, hv, h12] at ht
          exact ht.1
        have h1 : (cdAt l p).op = 11 := by
          have := (hP.st_lt p (by simp)).2
          have ho' : (cdAt l p).op = 11 ∨ (cdAt l p).op = 13 := by simpa [opB] using this
          rcases ho' with h | h
          · exact h
          · simp [mark, h] at hm
        have h2 : oth p < 0 := by
          simp only [mark, h1] at hm
          split at hm
          · simp at *
          · split at hm
            · simp at hm
            · omega
        exact ⟨_, _, _, hP.els_ hx hv h12 h1 h2⟩
    · cases st with
      | nil => simp at hl
      | cons p st => exact ⟨_, _, _, hP.end_ hx hv h14⟩
    · exact ⟨_, _, _, hP.same_ hx hv ho h12 h14⟩

theorem cdAt_op (l : List Cd) (k : Nat) : (cdAt l k).op = opAt l k := by
  unfold cdAt opAt
  cases l[k]? <;> rfl
/-- An else or an end has its opening. -/
theorem around_in {l : List Cd} (h : pv l = true) {k : Nat} {x : Cd} (hx : l[k]? = some x) (ho : x.op = 12 ∨ x.op = 14) :
    aroundOf l k = (aroundN l k : Int) ∧ aroundN l k < k ∧ opB (cdAt l (aroundN l k)) = true := by
  have hk : k < l.length := (List.getElem?_eq_some_iff.1 hx).1
  obtain ⟨st, oth, en, hP⟩ := pinv_at h k (by omega)
  obtain ⟨t, ht⟩ := pv_step h hx hP.pvs
  have hv : cvOk x = true := pv_all h _ (List.mem_of_getElem? hx)
  cases st with
  | nil => rcases ho with ho | ho <;> simp [pvStep, hv, ho] at ht
  | cons p st =>
    have ha := hP.aro 0
    simp at ha
    have e : aroundN l k = p := by simp [aroundN, aroundOf, ha]
    have := hP.st_lt p (by simp)
    rw [e]
    exact ⟨ha, this.1, this.2⟩

theorem scanE_else_bound : ∀ (r : List Cd) (k d : Nat) (o : Int), (scanE r k d o).2 = o ∨ ∃ j : Nat, (scanE r k d o).2 = (j : Int) ∧ k ≤ j ∧ j < k + r.length
  | [], k, d, o => .inl rfl
  | x :: r, k, d, o => by
    have up : ∀ {k : Nat} {v : Int}, (∃ j : Nat, v = (j : Int) ∧ k + 1 ≤ j ∧ j < k + 1 + r.length) → ∃ j : Nat, v = (j : Int) ∧ k ≤ j ∧ j < k + (x :: r).length := by
      rintro k v ⟨j, h1, h2, h3⟩
      exact ⟨j, h1, by omega, by simp; omega⟩
    unfold scanE
    split
    · exact (scanE_else_bound r (k + 1) (d + 1) o).imp id up
    split
    · rcases scanE_else_bound r (k + 1) d k with h | h
      · exact .inr ⟨k, h, Nat.le_refl _, by simp⟩
      · exact .inr (up h)
    split
    · exact .inl rfl
    split
    · exact (scanE_else_bound r (k + 1) (d - 1) o).imp id up
    · exact (scanE_else_bound r (k + 1) d o).imp id up
theorem elseAt_lt {l : List Cd} {k : Nat} (hk : k < l.length) : elseAt l k = -1 ∨ ∃ j : Nat, elseAt l k = (j : Int) ∧ k < j ∧ j < l.length := by
  rcases scanE_else_bound (l.drop (k + 1)) (k + 1) 0 (-1) with h | ⟨j, h1, h2, h3⟩
  · exact .inl h
  · refine .inr ⟨j, h1, by omega, ?_⟩
    simp at h3
    omega
theorem overN_le {l : List Cd} (h : pv l = true) {k : Nat} {x : Cd} (hx : l[k]? = some x) (ho : opB x = true) : overN l k ≤ l.length := by
  have hk : k < l.length := (List.getElem?_eq_some_iff.1 hx).1
  obtain ⟨_, _, h3⟩ := pEnd_bound h hx ho
  unfold overN
  split
  · rename_i h0
    rcases elseAt_lt hk with h | ⟨j, h1, _, h2⟩
    · omega
    · rw [h1]; omega
  · show pEnd l k + 1 ≤ _
    omega
theorem succs_le {l : List Cd} (h : pv l = true) {k : Nat} (hk : k < l.length) : ∀ t ∈ succs l k, t ≤ l.length := by
  have hx : l[k]? = some (cdAt l k) := by unfold cdAt; rw [List.getElem?_eq_getElem hk]
  intro t ht
  unfold succs at ht
  split at ht
  · rename_i ho
    have := overN_le h hx (by rw [← cdAt_op] at ho; exact ho)
    split at ht
    · simp at ht; omega
    · simp at ht; omega
  split at ht
  · rename_i ho
    have ha := around_in h hx (.inl (by rw [cdAt_op]; exact beq_iff_eq.1 ho))
    have hy : l[aroundN l k]? = some (cdAt l (aroundN l k)) := by unfold cdAt; rw [List.getElem?_eq_getElem (by omega)]
    have hb := (pEnd_bound h hy ha.2.2).2.2
    simp at ht
    have : endN l (aroundN l k) = pEnd l (aroundN l k) := rfl
    omega
  split at ht
  · rename_i ho
    have ha := around_in h hx (.inr (by rw [cdAt_op]; exact beq_iff_eq.1 ho))
    split at ht
    · simp at ht; omega
    · simp at ht; omega
  · simp at ht; omega
theorem succs_two (l : List Cd) (k : Nat) : (succs l k).length ≤ 2 := by
  unfold succs
  split
  · split <;> simp
  split
  · simp
  split
  · split <;> simp
  · simp

/-! ### The least solution -/
theorem fold_or_sub {s t : Nat → Nat} (h : ∀ k, sub (s k) (t k)) : ∀ (L : List Nat) (a b : Nat), sub a b → sub (L.foldl (fun m t => m ||| s t) a) (L.foldl (fun m k => m ||| t k) b)
  | [], _, _, hab => hab
  | x :: L, a, b, hab => fold_or_sub h L _ _ (sub_or hab (h x))
theorem outSet_mono {s t : Nat → Nat} (h : ∀ k, sub (s k) (t k)) (l : List Cd) (k : Nat) : sub (outSet l s k) (outSet l t k) := fold_or_sub h _ _ _ (sub.refl 0)
theorem liveAt_mono {s t : Nat → Nat} (h : ∀ k, sub (s k) (t k)) (l : List Cd) (k : Nat) : sub (liveAt l s k) (liveAt l t k) :=
  sub_or (sub_or (sub_mdiff (outSet_mono h l k) _) (sub.refl _)) (sub.refl _)
theorem fold_or_lt {s : Nat → Nat} (h : ∀ k, s k < 16) : ∀ (L : List Nat) (a : Nat), a < 16 → L.foldl (fun m t => m ||| s t) a < 16
  | [], _, ha => ha
  | x :: L, a, ha => fold_or_lt h L _ (Nat.or_lt_two_pow (n := 4) ha (h x))
theorem outSet_lt {s : Nat → Nat} (h : ∀ k, s k < 16) (l : List Cd) (k : Nat) : outSet l s k < 16 := fold_or_lt h _ _ (by decide)
theorem loopSet_lt {l : List Cd} (h : pv l = true) (k : Nat) (hk : k < l.length) : loopSet l k < 16 := by
  unfold loopSet
  split
  · rename_i ho
    simp only [Bool.and_eq_true] at ho
    have hx : l[k]? = some (cdAt l k) := by unfold cdAt; rw [List.getElem?_eq_getElem hk]
    have ha := around_in h hx (.inr (by rw [cdAt_op]; exact beq_iff_eq.1 ho.1))
    have hy : l[aroundN l k]? = some (cdAt l (aroundN l k)) := by unfold cdAt; rw [List.getElem?_eq_getElem (by omega)]
    have hv := pv_all h _ (List.mem_of_getElem? hy)
    have := cvOk_a hv
    exact Nat.pow_lt_pow_right (a := 2) (n := 4) (by decide) (by omega)
  · decide
theorem liveAt_lt {l : List Cd} (h : pv l = true) {s : Nat → Nat} (hs : ∀ k, s k < 16) (k : Nat) (hk : k < l.length) : liveAt l s k < 16 :=
  Nat.or_lt_two_pow (n := 4) (Nat.or_lt_two_pow (n := 4) (mdiff_lt (outSet_lt hs l k)) (reads_lt _)) (loopSet_lt h k hk)

structure LInv (l : List Cd) (s : Nat → Nat) : Prop where
  pre : ∀ k, k < l.length → sub (s k) (liveAt l s k)
  out : ∀ k, l.length ≤ k → s k = 0
  low : ∀ t : Nat → Nat, (∀ k, k < l.length → sub (liveAt l t k) (t k)) → ∀ k, sub (s k) (t k)
  b16 : ∀ k, s k < 16
theorem LInv.start (l : List Cd) : LInv l (fun _ => 0) :=
  ⟨fun k _ => sub_zero _, fun _ _ => rfl, fun _ _ _ => sub_zero _, fun _ => by decide⟩
theorem upd_up {s : Nat → Nat} {k v : Nat} (h : sub (s k) v) : ∀ j, sub (s j) (upd s k v j) := by
  intro j
  unfold upd
  split
  · rename_i e; subst e; exact h
  · exact sub.refl _
theorem LInv.step {l : List Cd} {s : Nat → Nat} (h : LInv l s) (hp : pv l = true) {k : Nat} (hk : k < l.length) : LInv l (upd s k (liveAt l s k)) := by
  have hu := upd_up (h.pre k hk)
  refine ⟨fun j hj => ?_, fun j hj => ?_, fun t ht j => ?_, fun j => ?_⟩
  · have := liveAt_mono hu l j
    show sub (upd s k (liveAt l s k) j) _
    unfold upd at this ⊢
    split
    · rename_i e; subst e; exact this
    · exact (h.pre j hj).trans this
  · unfold upd
    rw [if_neg (by omega)]
    exact h.out j hj
  · unfold upd
    split
    · rename_i e; subst e; exact (liveAt_mono (h.low t ht) l j).trans (ht j hk)
    · exact h.low t ht j
  · unfold upd
    split
    · exact liveAt_lt hp h.b16 k hk
    · exact h.b16 j
def Fix (l : List Cd) (s : Nat → Nat) : Prop := LInv l s ∧ ∀ k, k < l.length → s k = liveAt l s k
noncomputable def liveFix (l : List Cd) : Nat → Nat := Classical.epsilon (Fix l)
theorem Fix.eq {l : List Cd} {s : Nat → Nat} (h : Fix l s) : s = liveFix l := by
  have h2 : Fix l (liveFix l) := Classical.epsilon_spec ⟨s, h⟩
  funext k
  refine (h.1.low _ (fun j hj => ?_) k).antisymm (h2.1.low _ (fun j hj => ?_) k)
  · rw [← h2.2 j hj]; exact sub.refl _
  · rw [← h.2 j hj]; exact sub.refl _

def sumN (s : Nat → Nat) : Nat → Nat
  | 0 => 0
  | n + 1 => sumN s n + s n
theorem sumN_le {s : Nat → Nat} (h : ∀ k, s k < 16) : ∀ n, sumN s n ≤ 15 * n
  | 0 => by simp [sumN]
  | n + 1 => by have := sumN_le h n; have := h n; simp only [sumN]; omega
theorem sumN_upd (s : Nat → Nat) (k v : Nat) : ∀ n, sumN (upd s k v) n + (if k < n then s k else 0) = sumN s n + (if k < n then v else 0)
  | 0 => by simp [sumN]
  | n + 1 => by
    have ih := sumN_upd s k v n
    simp only [sumN]
    by_cases e : k = n
    · subst e
      rw [if_neg (by omega), if_neg (by omega)] at ih
      rw [if_pos (by omega), if_pos (by omega)]
      simp [upd]
      omega
    · have hu : upd s k v n = s n := by unfold upd; rw [if_neg (fun h => e h.symm)]
      rw [hu]
      by_cases h : k < n
      · rw [if_pos h, if_pos h] at ih
        rw [if_pos (by omega), if_pos (by omega)]
        omega
      · rw [if_neg h, if_neg h] at ih
        rw [if_neg (by omega), if_neg (by omega)]
        omega
theorem upd_same {s : Nat → Nat} {k v : Nat} (h : v = s k) : upd s k v = s := by
  funext j
  unfold upd
  split
  · rename_i e; subst e; exact h
  · rfl
/-- Within a pass, at place k: what has changed since the pass began with s0. -/
def Mid (l : List Cd) (s0 s : Nat → Nat) (k : Nat) (ch : Bool) : Prop :=
  LInv l s ∧ (ch = false → s = s0 ∧ ∀ j, k ≤ j → j < l.length → s j = liveAt l s j) ∧ (ch = true → sumN s0 l.length < sumN s l.length)
theorem Mid.start {l : List Cd} {s : Nat → Nat} (h : LInv l s) : Mid l s s l.length false := ⟨h, fun _ => ⟨rfl, fun j h1 h2 => by omega⟩, fun h => by cases h⟩
theorem Mid.step {l : List Cd} (hp : pv l = true) {s0 s : Nat → Nat} {k : Nat} {ch : Bool} (h : Mid l s0 s (k + 1) ch) (hk : k < l.length) :
    Mid l s0 (upd s k (liveAt l s k)) k (ch || !((liveAt l s k : Int) == (s k : Int))) := by
  obtain ⟨h1, h2, h3⟩ := h
  have hle : s k ≤ liveAt l s k := (h1.pre k hk).le
  have hsum := sumN_upd s k (liveAt l s k) l.length
  rw [if_pos hk, if_pos hk] at hsum
  refine ⟨h1.step hp hk, fun hc => ?_, fun hc => ?_⟩
  · simp only [Bool.or_eq_false_iff] at hc
    obtain ⟨hc1, hc2⟩ := hc
    have he : liveAt l s k = s k := by
      simp at hc2
      omega
    rw [upd_same he]
    refine ⟨(h2 hc1).1, fun j hj1 hj2 => ?_⟩
    by_cases e : j = k
    · subst e; exact he.symm
    · exact (h2 hc1).2 j (by omega) hj2
  · cases hch : ch with
    | true =>
      have := h3 hch
      omega
    | false =>
      rw [hch] at hc
      simp only [Bool.false_or, Bool.not_eq_true', beq_eq_false_iff_ne] at hc
      have hs := (h2 hch).1
      rw [← hs]
      omega
theorem Mid.done {l : List Cd} {s0 s : Nat → Nat} (h : Mid l s0 s 0 false) : s = liveFix l := Fix.eq ⟨h.1, fun k hk => (h.2.1 rfl).2 k (Nat.zero_le _) hk⟩

/-! ### There is a least solution -/
theorem pass_ex {l : List Cd} (hp : pv l = true) {s : Nat → Nat} (h : LInv l s) : ∀ j, j ≤ l.length → ∃ s' ch, Mid l s s' (l.length - j) ch
  | 0, _ => ⟨s, false, Mid.start h⟩
  | j + 1, hj => by
    obtain ⟨s', ch, hM⟩ := pass_ex hp h j (by omega)
    have e : l.length - j = (l.length - (j + 1)) + 1 := by omega
    rw [e] at hM
    exact ⟨_, _, hM.step hp (by omega)⟩
theorem fix_ex {l : List Cd} (hp : pv l = true) : ∀ (n : Nat) (s : Nat → Nat), LInv l s → 15 * l.length - sumN s l.length ≤ n → ∃ t, Fix l t
  | n, s, h, hn => by
    obtain ⟨s', ch, hM⟩ := pass_ex hp h l.length (Nat.le_refl _)
    rw [Nat.sub_self] at hM
    cases ch with
    | false => exact ⟨s', hM.1, fun k hk => (hM.2.1 rfl).2 k (Nat.zero_le _) hk⟩
    | true =>
      have h1 := hM.2.2 rfl
      have h2 := sumN_le hM.1.b16 l.length
      match n, hn with
      | 0, hn => omega
      | n + 1, hn => exact fix_ex hp n s' hM.1 (by omega)
theorem fix_is {l : List Cd} (hp : pv l = true) : Fix l (liveFix l) := Classical.epsilon_spec (fix_ex hp _ _ (LInv.start l) (Nat.le_refl _))

/-! ### What is dropped -/
noncomputable def deadB (l : List Cd) (k : Nat) : Bool := !(mdiff (wset (cdAt l k)) (outSet l (liveFix l) k) == 0)
noncomputable def deadN (l : List Cd) (n : Nat) : List Nat := (List.range n).filter (deadB l)
noncomputable def deadL (l : List Cd) : List Int := (deadN l l.length).map fun (k : Nat) => (k : Int)
noncomputable def keepN (l : List Cd) (n : Nat) : List Cd := ((List.range n).filter fun k => !deadB l k).map (cdAt l)
noncomputable def dropF : Nat → List Cd → List Cd
  | 0, l => l
  | n + 1, l => if deadN l l.length = [] then l else dropF n (keepN l l.length)
noncomputable def dropDeadL (l : List Cd) : List Cd := if pv l then dropF l.length l else []
theorem deadN_succ (l : List Cd) (n : Nat) : deadN l (n + 1) = deadN l n ++ (if deadB l n then [n] else []) := by
  simp [deadN, List.range_succ, List.filter_append, List.filter_cons]
theorem keepN_succ (l : List Cd) (n : Nat) : keepN l (n + 1) = keepN l n ++ (if deadB l n then [] else [cdAt l n]) := by
  unfold keepN
  rw [List.range_succ, List.filter_append, List.map_append]
  cases h : deadB l n <;> simp [List.filter_cons, h]
theorem deadN_len (l : List Cd) (n : Nat) : (deadN l n).length ≤ n := by
  have := List.length_filter_le (deadB l) (List.range n)
  simpa [deadN] using this
theorem keepN_len (l : List Cd) : ∀ n, (keepN l n).length + (deadN l n).length = n
  | 0 => by simp [keepN, deadN]
  | n + 1 => by
    have := keepN_len l n
    rw [keepN_succ, deadN_succ]
    cases deadB l n <;> simp <;> omega
theorem deadN_mem {l : List Cd} {n k : Nat} : k ∈ deadN l n ↔ k < n ∧ deadB l k = true := by simp [deadN]
theorem deadN_pre (l : List Cd) (k : Nat) : ∀ n, k ≤ n → ∃ r, deadN l n = deadN l k ++ r ∧ ∀ j ∈ r, k ≤ j
  | 0, h => ⟨[], by simp [deadN]; omega, by simp⟩
  | n + 1, h => by
    by_cases e : k = n + 1
    · subst e; exact ⟨[], by simp, by simp⟩
    · obtain ⟨r, h1, h2⟩ := deadN_pre l k n (by omega)
      refine ⟨r ++ (if deadB l n then [n] else []), by rw [deadN_succ, h1, List.append_assoc], ?_⟩
      intro j hj
      rcases List.mem_append.1 hj with hj | hj
      · exact h2 j hj
      · split at hj
        · simp at hj; omega
        · simp at hj
/-- The next dead place at or behind k is k exactly if k is dead. -/
theorem deadN_next {l : List Cd} {k : Nat} (hk : k < l.length) : (deadB l k = true → (deadN l l.length)[(deadN l k).length]? = some k) ∧ (deadB l k = false → ∀ j, (deadN l l.length)[(deadN l k).length]? = some j → j ≠ k) := by
  obtain ⟨r, h1, h2⟩ := deadN_pre l (k + 1) l.length hk
  rw [h1, deadN_succ]
  constructor
  · intro h
    simp [h]
  · intro h j hj
    simp only [h, Bool.false_eq_true, if_false, List.append_nil] at hj
    rw [List.getElem?_append_right (Nat.le_refl _), Nat.sub_self] at hj
    have := h2 j (List.mem_of_getElem? hj)
    omega
theorem keep_pv {l : List Cd} (h : ∀ k, k < l.length → cvOk (cdAt l k) = true) : ∀ n, n ≤ l.length → pvRun [] (keepN l n) = pvRun [] (l.take n)
  | 0, _ => by simp [keepN]
  | n + 1, hn => by
    have ih := keep_pv h n (by omega)
    have hx : l[n]? = some (cdAt l n) := by unfold cdAt; rw [List.getElem?_eq_getElem (by omega)]
    obtain ⟨hk, hx'⟩ := List.getElem?_eq_some_iff.1 hx
    rw [keepN_succ, pvRun_append, ih, List.take_succ_eq_append_getElem hk, pvRun_append, hx']
    cases hs : pvRun [] (l.take n) with
    | none => rfl
    | some s =>
      cases hd : deadB l n with
      | false => rfl
      | true =>
        simp only [if_true]
        have hw : wset (cdAt l n) ≠ 0 := by
          intro e
          simp [deadB, e, mdiff_zero] at hd
        have hv := h n (by omega)
        have hr : 1 ≤ (cdAt l n).op ∧ (cdAt l n).op ≤ 8 := by
          unfold wset at hw
          split at hw
          · rename_i hc
            simp only [Bool.and_eq_true] at hc
            exact inR_iff.1 hc.2
          · exact absurd rfl hw
        have e : ∀ j : Int, 9 ≤ j → ((cdAt l n).op == j) = false := fun j a => by rw [beq_eq_false_iff_ne]; omega
        simp [pvRun, pvStep, hv, e]
theorem keep_ok {l : List Cd} (h : pv l = true) : pv (keepN l l.length) = true := by
  have hp := pv_iff.1 h
  refine pv_iff.2 ⟨by have := keepN_len l l.length; omega, ?_⟩
  rw [keep_pv (fun k hk => pv_all h _ (List.mem_of_getElem? (show l[k]? = some (cdAt l k) by unfold cdAt; rw [List.getElem?_eq_getElem hk]))) _ (Nat.le_refl _), List.take_length]
  exact hp.2
theorem keep_lt {l : List Cd} (h : deadN l l.length ≠ []) : (keepN l l.length).length < l.length := by
  have := keepN_len l l.length
  have : 0 < (deadN l l.length).length := List.length_pos_iff.2 h
  omega
theorem dropF_ok : ∀ (n : Nat) (l : List Cd), pv l = true → pv (dropF n l) = true
  | 0, l, h => h
  | n + 1, l, h => by
    unfold dropF
    split
    · exact h
    · exact dropF_ok n _ (keep_ok h)
theorem dropDeadL_ok {l : List Cd} (h : pv l = true) : pv (dropDeadL l) = true := by
  unfold dropDeadL
  rw [if_pos h]
  exact dropF_ok _ _ h
theorem dropDeadL_len (l : List Cd) : (dropDeadL l).length ≤ 40 := by
  cases h : pv l with
  | true => exact (pv_iff.1 (dropDeadL_ok h)).1
  | false => simp [dropDeadL, h]
end Go.Proofs.YtakeacndmnnbmaaGreat
