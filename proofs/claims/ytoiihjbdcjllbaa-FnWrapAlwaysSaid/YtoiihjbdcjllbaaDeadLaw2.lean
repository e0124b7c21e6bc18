/- Programs without instructions whose result is not read: plain Lean, no program in sight. -/
import Derived.Test.YtoiihjbdcjllbaaDeadLaw
namespace Go.Proofs.Ytoiihjbdcjllbaa
set_option linter.unusedVariables false
set_option linter.unusedSimpArgs false

/-! ### Dropping in a list -/
def keepF (D : Nat → Bool) : Nat → List Cd → List Cd
  | _, [] => []
  | p, x :: l => if D p then keepF D (p + 1) l else x :: keepF D (p + 1) l
theorem keepF_app (D : Nat → Bool) : ∀ (a b : List Cd) (p : Nat), keepF D p (a ++ b) = keepF D p a ++ keepF D (p + a.length) b
  | [], b, p => by simp [keepF]
  | x :: a, b, p => by
    simp only [keepF, List.cons_append, List.length_cons, keepF_app D a b (p + 1)]
    rw [show p + (a.length + 1) = p + 1 + a.length by omega]
    split <;> rfl
theorem keepF_none {D : Nat → Bool} : ∀ (a : List Cd) (p : Nat), (∀ q, p ≤ q → q < p + a.length → D q = false) → keepF D p a = a
  | [], _, _ => rfl
  | x :: a, p, h => by
    simp only [keepF]
    rw [h p (Nat.le_refl _) (by simp), keepF_none a (p + 1) (fun q h1 h2 => h q (by omega) (by simp; omega))]
    rfl
theorem keepF_len (D : Nat → Bool) : ∀ (a : List Cd) (p : Nat), (keepF D p a).length ≤ a.length
  | [], _ => Nat.le_refl _
  | x :: a, p => by
    simp only [keepF]
    have := keepF_len D a (p + 1)
    split <;> simp <;> omega
theorem keepF_at (l : List Cd) (at' : Nat) : l.take at' ++ l.drop (at' + 1) = keepF (fun q => q == at') 0 l := by
  by_cases h : at' < l.length
  · conv => rhs; rw [← List.take_append_drop at' l, keepF_app]
    have hl : (l.take at').length = at' := by simp [List.length_take]; omega
    rw [keepF_none (l.take at') 0 (fun q _ h2 => by rw [hl] at h2; exact beq_eq_false_iff_ne.2 (by omega)), hl, Nat.zero_add, List.drop_eq_getElem_cons h]
    simp only [keepF, beq_self_eq_true, if_true]
    rw [keepF_none _ _ (fun q h1 _ => beq_eq_false_iff_ne.2 (by omega))]
  · rw [List.drop_eq_nil_of_le (by omega), List.take_of_length_le (by omega), List.append_nil, keepF_none _ _ (fun q _ h2 => beq_eq_false_iff_ne.2 (by omega))]
theorem keepN_eq (l : List Cd) : ∀ n, n ≤ l.length → keepN l n = keepF (deadB l) 0 (l.take n)
  | 0, _ => by simp [keepN, keepF]
  | n + 1, h => by
    have hl : (l.take n).length = n := by simp [List.length_take]; omega
    rw [keepN_succ, keepN_eq l n (by omega), List.take_succ_eq_append_getElem (by omega), keepF_app, hl, Nat.zero_add]
    have hx : cdAt l n = l[n] := by unfold cdAt; rw [List.getElem?_eq_getElem (by omega)]
    simp only [keepF, hx]
theorem keepN_all (l : List Cd) : keepN l l.length = keepF (deadB l) 0 l := by
  rw [keepN_eq l _ (Nat.le_refl _), List.take_length]
theorem notDead {l : List Cd} {D : Nat → Bool} (hD : ∀ p, D p = true → deadB l p = true) {p : Nat} {x : Cd} (hx : l[p]? = some x) (h : 8 < x.op) : D p = false := by
  cases h1 : D p with
  | false => rfl
  | true =>
    have := dead_op (hD p h1)
    rw [cdAt_get hx] at this
    omega
theorem dropT_flat {l : List Cd} {D : Nat → Bool} (hD : ∀ p, D p = true → deadB l p = true) (b : Blk) : ∀ (d p : Nat) (rest : List Cd), b.ok d → l.drop p = b.flat ++ rest → (b.dropT D p).flat = keepF D p b.flat := by
  induction b with
  | nil => intro d p rest _ _; rfl
  | op x r ih =>
    intro d p rest ⟨_, _, _, hr⟩ hd
    obtain ⟨_, h2, _⟩ := drop_cons (r := r.flat ++ rest) hd
    have := ih d (p + 1) rest hr h2
    simp only [Blk.dropT, Blk.flat, keepF]
    split
    · exact this
    · simp only [Blk.flat, this]
  | iff a t r iht ihr =>
    intro d p rest ⟨ha, hd1, ht, hr⟩ hd
    have h' : l.drop p = cIf a :: (t.flat ++ cEnd :: (r.flat ++ rest)) := by rw [hd]; simp [Blk.flat]
    obtain ⟨h0, h2, _⟩ := drop_cons h'
    obtain ⟨_, _, h3⟩ := end_iff ht h'
    have hend := (drop_cons (drop_skip h2)).1
    have k1 := iht _ (p + 1) _ ht h2
    have k2 := ihr d (p + t.flat.length + 2) rest hr h3
    simp only [Blk.dropT, Blk.flat, keepF, notDead hD h0 (show 8 < (cIf a).op by simp [cIf]), keepF_app, k1, Bool.false_eq_true, if_false]
    rw [notDead hD (x := cEnd) (p := p + 1 + t.flat.length) hend (by simp [cEnd]), k2]
    simp only [Bool.false_eq_true, if_false]
    rw [show p + 1 + t.flat.length + 1 = p + t.flat.length + 2 by omega]
  | ife a t e r iht ihe ihr =>
    intro d p rest ⟨ha, hd1, ht, he, hr⟩ hd
    have h' : l.drop p = cIf a :: (t.flat ++ cElse :: (e.flat ++ cEnd :: (r.flat ++ rest))) := by rw [hd]; simp [Blk.flat]
    obtain ⟨h0, h2, _⟩ := drop_cons h'
    obtain ⟨_, _, h3, h4⟩ := end_ife ht he h'
    have hels := (drop_cons (drop_skip h2)).1
    have hend := (drop_cons (drop_skip h3)).1
    have k1 := iht _ (p + 1) _ ht h2
    have k2 := ihe _ (p + t.flat.length + 2) _ he h3
    have k3 := ihr d (p + t.flat.length + e.flat.length + 3) rest hr h4
    simp only [Blk.dropT, Blk.flat, keepF, notDead hD h0 (show 8 < (cIf a).op by simp [cIf]), keepF_app, k1, Bool.false_eq_true, if_false]
    rw [notDead hD (x := cElse) (p := p + 1 + t.flat.length) hels (by simp [cElse]), k2, k3]
    simp only [Bool.false_eq_true, if_false]
    rw [show p + 1 + t.flat.length + 1 = p + t.flat.length + 2 by omega, notDead hD (x := cEnd) (p := p + t.flat.length + 2 + e.flat.length) hend (by simp [cEnd])]
    simp only [Bool.false_eq_true, if_false]
    rw [show p + t.flat.length + 2 + e.flat.length + 1 = p + t.flat.length + e.flat.length + 3 by omega]
  | loop a c t r iht ihr =>
    intro d p rest ⟨ha, hc, hd1, ht, hr⟩ hd
    have h' : l.drop p = cLoop a c :: (t.flat ++ cEnd :: (r.flat ++ rest)) := by rw [hd]; simp [Blk.flat]
    obtain ⟨h0, h2, _⟩ := drop_cons h'
    obtain ⟨_, _, h3⟩ := end_iff ht h'
    have hend := (drop_cons (drop_skip h2)).1
    have k1 := iht _ (p + 1) _ ht h2
    have k2 := ihr d (p + t.flat.length + 2) rest hr h3
    simp only [Blk.dropT, Blk.flat, keepF, notDead hD h0 (show 8 < (cLoop a c).op by simp [cLoop]), keepF_app, k1, Bool.false_eq_true, if_false]
    rw [notDead hD (x := cEnd) (p := p + 1 + t.flat.length) hend (by simp [cEnd]), k2]
    simp only [Bool.false_eq_true, if_false]
    rw [show p + 1 + t.flat.length + 1 = p + t.flat.length + 2 by omega]

/-! ### Runs -/
/-- The second program leads to the same memory, with the same writes, in no more steps. -/
structure Less (n : Nat) (m : List Int) (l l' : List Cd) : Prop where
  ok : pv l' = true
  mem : (lockS l' n m).mem = (lockS l n m).mem
  spl : splitB l' n (lockS l' n m).beats = splitB l n (lockS l n m).beats
  wr : (lockS l' n m).accs.filter (fun q => q.wr) = (lockS l n m).accs.filter (fun q => q.wr)
  al : (lockS l' n m).accs.Sublist (lockS l n m).accs
  bl : (lockS l' n m).beats.length ≤ (lockS l n m).beats.length
  len : l'.length ≤ l.length
theorem Less.refl {n : Nat} {m : List Int} {l : List Cd} (h : pv l = true) : Less n m l l := ⟨h, rfl, rfl, rfl, List.Sublist.refl _, Nat.le_refl _, Nat.le_refl _⟩
theorem Less.trans {n : Nat} {m : List Int} {l l' l'' : List Cd} (h : Less n m l l') (k : Less n m l' l'') : Less n m l l'' :=
  ⟨k.ok, k.mem.trans h.mem, k.spl.trans h.spl, k.wr.trans h.wr, k.al.trans h.al, Nat.le_trans k.bl h.bl, Nat.le_trans k.len h.len⟩
theorem ev_len (l : List Cd) (bs : List (Nat × Nat)) : (evOf l bs).length = bs.length := by simp [evOf]
theorem less_of {l l' : List Cd} (h : pv l = true) (h' : pv l' = true) {n : Nat} (hn : 1 ≤ n ∧ n ≤ 8) {m : List Int} (hm : memOk m = true) (hlen : l'.length ≤ l.length)
    (km : (goS l' n m).s.mem = (goS l n m).s.mem) (kw : (goS l' n m).s.accs.filter (fun q => q.wr) = (goS l n m).s.accs.filter (fun q => q.wr)) (ka : (goS l' n m).s.accs.Sublist (goS l n m).s.accs)
    (kb : barr (goS l' n m).ev = barr (goS l n m).ev) (ke : (goS l' n m).ev.length ≤ (goS l n m).ev.length) : Less n m l l' := by
  rw [goS_eq h, goS_eq h'] at km kw ka kb ke
  have kin : ∀ {l : List Cd}, pv l = true → ∀ q ∈ (lockS l n m).beats, q.1 < l.length := by
    intro l h q hq
    have hok : lockOk l n m = true := by
      have : inR (n : Int) 1 8 = true := inR_iff.2 (by omega)
      simp [lockOk, h, hm, this]
    have := trace_in (l := l) (n := n) (m := m) q (by unfold traceOf; rw [if_pos hok]; simpa using hq)
    exact this.1
  refine ⟨h', km, ?_, kw, ka, ?_, hlen⟩
  · rw [splitB_ev _ _ _ (kin h), splitB_ev _ _ _ (kin h')]
    show (barr (GS.of l' (lockS l' n m)).ev).any _ = (barr (GS.of l (lockS l n m)).ev).any _
    rw [kb]
  · have : (evOf l' (lockS l' n m).beats).length ≤ (evOf l (lockS l n m).beats).length := ke
    rwa [ev_len, ev_len] at this
theorem keep_less {l : List Cd} (h : pv l = true) {D : Nat → Bool} (hD : ∀ p, D p = true → deadB l p = true) {n : Nat} (hn : 1 ≤ n ∧ n ≤ 8) {m : List Int} (hm : memOk m = true) : Less n m l (keepF D 0 l) := by
  obtain ⟨h1, h2⟩ := treeOf_spec h
  have e : (treeOf l).flat = l := h2
  have hfl := dropT_flat hD (treeOf l) 3 0 [] h1 (by simp [h2])
  rw [h2] at hfl
  have hk := dropT_ok D (treeOf l) 3 0 h1
  have hlen := keepF_len D l 0
  have h' : pv (keepF D 0 l) = true := pv_tree.2 ⟨by have := (pv_iff.1 h).1; omega, _, hk, hfl⟩
  have hmm : 2 ^ n - 1 < 2 ^ n := by have : 0 < 2 ^ n := Nat.pow_pos (by decide); omega
  have hst : LR n (fun _ => liveFix l 0) ⟨LS.start n m, []⟩ ⟨LS.start n m, []⟩ := by
    have e : (LS.start n m).regs.length = n := by simp [LS.start]
    refine ⟨e, e, fun k hk => ?_, rfl, rfl, rfl, List.Sublist.refl _, rfl, Nat.le_refl _⟩
    have e4 : ((LS.start n m).regs.getD k []).length = 4 := by simp [LS.start, List.getD_eq_getElem?_getD, hk]
    exact ⟨e4, e4, fun _ _ _ _ => rfl⟩
  have R := live_go h hD hn.2 (treeOf l) 3 0 (2 ^ n - 1) [] _ _ _ h1 (by simp [h2]) hmm hst (fun _ _ _ => sub.refl _)
  rw [← goS_tree' hk hfl h' n m] at R
  have e0 : (treeOf l).go (2 ^ n - 1) ⟨LS.start n m, []⟩ = goS l n m := rfl
  rw [e0] at R
  exact less_of h h' hn hm hlen R.mem R.wr R.al R.br R.el
theorem same_less {l l' : List Cd} (h : pv l = true) (h' : pv l' = true) {n : Nat} (hn : 1 ≤ n ∧ n ≤ 8) {m : List Int} (hm : memOk m = true) (hlen : l'.length ≤ l.length) (k : SameB (goS l n m) (goS l' n m)) (ke : (goS l' n m).ev.length ≤ (goS l n m).ev.length) : Less n m l l' :=
  less_of h h' hn hm hlen (by rw [k.1]) (by rw [k.1]) (by rw [k.1]; exact List.Sublist.refl _) k.2.symm ke
theorem dropF_less {n : Nat} (hn : 1 ≤ n ∧ n ≤ 8) {m : List Int} (hm : memOk m = true) : ∀ (k : Nat) (l : List Cd), pv l = true → Less n m l (dropF k l)
  | 0, l, h => Less.refl h
  | k + 1, l, h => by
    unfold dropF
    split
    · exact Less.refl h
    · have e := keep_less h (D := deadB l) (fun _ h => h) hn hm
      rw [← keepN_all] at e
      exact e.trans (dropF_less hn hm k _ (keep_ok h))
theorem dropDead_less {l : List Cd} (h : pv l = true) {n : Nat} (hn : 1 ≤ n ∧ n ≤ 8) {m : List Int} (hm : memOk m = true) : Less n m l (dropDeadL l) := by
  unfold dropDeadL
  rw [if_pos h]
  exact dropF_less hn hm _ _ h
/-- One dead instruction less. -/
theorem dead_one {l : List Cd} (h : pv l = true) {at' : Nat} (ha : deadB l at' = true) {n : Nat} (hn : 1 ≤ n ∧ n ≤ 8) {m : List Int} (hm : memOk m = true) : Less n m l (l.take at' ++ l.drop (at' + 1)) := by
  rw [keepF_at]
  exact keep_less h (fun p hp => by rw [beq_iff_eq.1 hp]; exact ha) hn hm
/-! ### What stays -/
theorem dropF_none : ∀ (k : Nat) (l : List Cd), l.length ≤ k → deadN (dropF k l) (dropF k l).length = []
  | 0, l, h => by
    have : l = [] := List.eq_nil_of_length_eq_zero (by omega)
    subst this
    rfl
  | k + 1, l, h => by
    unfold dropF
    split
    · assumption
    · rename_i hne
      have := keep_lt hne
      exact dropF_none k _ (by omega)
theorem dropDead_none {l : List Cd} (h : pv l = true) : deadN (dropDeadL l) (dropDeadL l).length = [] := by
  unfold dropDeadL
  rw [if_pos h]
  exact dropF_none _ _ (Nat.le_refl _)
theorem dropDead_len {l : List Cd} (h : pv l = true) : (dropDeadL l).length ≤ l.length :=
  (dropDead_less h (n := 1) (by omega) (m := [0]) (by decide)).len
theorem dropF_stay {l : List Cd} (h : deadN l l.length = []) : ∀ k, dropF k l = l
  | 0 => rfl
  | k + 1 => by unfold dropF; rw [if_pos h]
theorem dropDead_twice {l : List Cd} (h : pv l = true) : dropDeadL (dropDeadL l) = dropDeadL l := by
  have h1 := dropDeadL_ok h
  have e : ∀ k : List Cd, pv k = true → dropDeadL k = dropF k.length k := fun k hk => by unfold dropDeadL; rw [if_pos hk]
  rw [e _ h1, dropF_stay (dropDead_none h)]
theorem keepF_count {l : List Cd} {o : Int} (ho : 9 ≤ o) : ∀ (a : List Cd) (p : Nat), l.drop p = a → countOp (keepF (deadB l) p a) o = countOp a o
  | [], _, _ => rfl
  | x :: a, p, h => by
    obtain ⟨h1, h2, _⟩ := drop_cons h
    have ih := keepF_count ho a (p + 1) h2
    simp only [keepF, countOp_cons]
    split
    · rename_i hd
      have := dead_op hd
      rw [cdAt_get h1] at this
      have e : (x.op == o) = false := beq_eq_false_iff_ne.2 (by omega)
      rw [ih, e]
      simp
    · rw [countOp_cons, ih]
theorem dropF_count {o : Int} (ho : 9 ≤ o) : ∀ (k : Nat) (l : List Cd), countOp (dropF k l) o = countOp l o
  | 0, l => rfl
  | k + 1, l => by
    unfold dropF
    split
    · rfl
    · rw [dropF_count ho k, keepN_all, keepF_count ho l 0 rfl]
theorem dropDead_count {l : List Cd} (h : pv l = true) {o : Int} (ho : 9 ≤ o) : countOp (dropDeadL l) o = countOp l o := by
  unfold dropDeadL
  rw [if_pos h, dropF_count ho]

end Go.Proofs.Ytoiihjbdcjllbaa
