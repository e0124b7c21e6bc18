/- Barriers in no block: plain Lean, no program in sight. -/
import Derived.Test.YtfgbbajkdpideaaProfP
namespace Go.Proofs.Ytfgbbajkdpideaa
set_option linter.unusedVariables false
set_option linter.unusedSimpArgs false

theorem scanA_nb {l : List Cd} {n d : Nat} {x : Cd} (h : l[n]? = some x) (h1 : opB x = false) (h2 : x.op ≠ 14) : scanA l (n + 1) d = scanA l n d := by
  have e : (x.op == 14) = false := beq_eq_false_iff_ne.2 h2
  rw [scanA_step l n d x h, h1, e]; rfl
theorem scanA_op0 {l : List Cd} {n : Nat} {x : Cd} (h : l[n]? = some x) (h1 : opB x = true) : scanA l (n + 1) 0 = (n : Int) := by
  rw [scanA_step l n 0 x h, h1]; rfl
theorem scanA_drop {b : Blk} {d : Nat} (hb : b.ok d) {l rest : List Cd} {p : Nat} (h : l.drop p = b.flat ++ rest) (hp : p ≤ l.length) : scanA l (p + b.flat.length) 0 = scanA l p 0 := by
  have e : l = l.take p ++ (b.flat ++ rest) := by rw [← h, List.take_append_drop]
  have hl : (l.take p).length = p := by simp [List.length_take]; omega
  have := scanA_flat b d (l.take p) rest 0 hb
  rw [← e, hl] at this
  exact this
/-- Back from a place in a tree: an opening in it, or what is found from its beginning. -/
theorem scanA_at {l : List Cd} (b : Blk) : ∀ (d p : Nat) (rest : List Cd), b.ok d → l.drop p = b.flat ++ rest → p ≤ l.length → ∀ i, i ≤ b.flat.length → (∃ q : Nat, p ≤ q ∧ scanA l (p + i) 0 = (q : Int)) ∨ scanA l (p + i) 0 = scanA l p 0 := by
  induction b with
  | nil =>
    intro d p rest _ _ _ i hi
    obtain rfl : i = 0 := by simpa [Blk.flat] using hi
    exact .inr rfl
  | op x r ih =>
    intro d p rest ⟨hv, h1, h2, hr⟩ h hp i hi
    cases i with
    | zero => exact .inr rfl
    | succ i =>
      obtain ⟨k1, k2, k3⟩ := drop_cons (r := r.flat ++ rest) h
      have := ih d (p + 1) rest hr k2 (by omega) i (by simp [Blk.flat] at hi; omega)
      have e : scanA l (p + 1) 0 = scanA l p 0 := scanA_nb k1 (by
        have e1 : (x.op == 11) = false := beq_eq_false_iff_ne.2 (by omega)
        have e2 : (x.op == 13) = false := beq_eq_false_iff_ne.2 (by omega)
        simp [opB, e1, e2]) (by omega)
      rw [show p + (i + 1) = p + 1 + i by omega]
      rcases this with ⟨q, hq, e2⟩ | e2
      · exact .inl ⟨q, by omega, e2⟩
      · exact .inr (e2.trans e)
  | iff a t r iht ihr =>
    intro d p rest hok h hp i hi
    have hok' := hok
    obtain ⟨ha, hd1, ht, hr⟩ := hok
    have h' : l.drop p = cIf a :: (t.flat ++ cEnd :: (r.flat ++ rest)) := by rw [h]; simp [Blk.flat]
    obtain ⟨k1, k2, k3⟩ := drop_cons h'
    obtain ⟨_, _, h3⟩ := end_iff ht h'
    have hp2 : p + t.flat.length + 2 ≤ l.length := by
      have := congrArg List.length h'
      simp at this; omega
    have e2 : scanA l (p + t.flat.length + 2) 0 = scanA l p 0 := by
      have hb : (Blk.iff a t .nil).ok d := ⟨ha, hd1, ht, trivial⟩
      have := scanA_drop hb (rest := r.flat ++ rest) (l := l) (p := p) (by rw [h']; simp [Blk.flat]) hp
      rw [← this]
      congr 1
      simp [Blk.flat]; omega
    cases i with
    | zero => exact .inr rfl
    | succ i =>
      by_cases hit : i ≤ t.flat.length
      · left
        rw [show p + (i + 1) = p + 1 + i by omega]
        rcases iht _ (p + 1) _ ht k2 (by omega) i hit with ⟨q, hq, e⟩ | e
        · exact ⟨q, by omega, e⟩
        · exact ⟨p, Nat.le_refl _, e.trans (scanA_op0 k1 rfl)⟩
      · obtain ⟨j, rfl⟩ : ∃ j, i = t.flat.length + 1 + j := ⟨i - t.flat.length - 1, by omega⟩
        rw [show p + (t.flat.length + 1 + j + 1) = p + t.flat.length + 2 + j by omega]
        rcases ihr d (p + t.flat.length + 2) rest hr h3 hp2 j (by simp [Blk.flat] at hi; omega) with ⟨q, hq, e⟩ | e
        · exact .inl ⟨q, by omega, e⟩
        · exact .inr (e.trans e2)
  | ife a t e r iht ihe ihr =>
    intro d p rest hok h hp i hi
    obtain ⟨ha, hd1, ht, he, hr⟩ := hok
    have h' : l.drop p = cIf a :: (t.flat ++ cElse :: (e.flat ++ cEnd :: (r.flat ++ rest))) := by rw [h]; simp [Blk.flat]
    obtain ⟨k1, k2, k3⟩ := drop_cons h'
    obtain ⟨_, _, h3, h4⟩ := end_ife ht he h'
    have hlen : p + t.flat.length + e.flat.length + 3 ≤ l.length := by
      have := congrArg List.length h'
      simp at this; omega
    have e2 : scanA l (p + t.flat.length + e.flat.length + 3) 0 = scanA l p 0 := by
      have hb : (Blk.ife a t e .nil).ok d := ⟨ha, hd1, ht, he, trivial⟩
      have := scanA_drop hb (rest := r.flat ++ rest) (l := l) (p := p) (by rw [h']; simp [Blk.flat]) hp
      rw [← this]
      congr 1
      simp [Blk.flat]; omega
    have hels := (drop_cons (drop_skip k2)).1
    have eels : scanA l (p + t.flat.length + 2) 0 = (p : Int) := by
      rw [show p + t.flat.length + 2 = p + 1 + t.flat.length + 1 by omega, scanA_nb hels rfl (by simp [cElse]), scanA_drop ht k2 (by omega)]
      exact scanA_op0 k1 rfl
    cases i with
    | zero => exact .inr rfl
    | succ i =>
      by_cases hit : i ≤ t.flat.length
      · left
        rw [show p + (i + 1) = p + 1 + i by omega]
        rcases iht _ (p + 1) _ ht k2 (by omega) i hit with ⟨q, hq, e⟩ | e
        · exact ⟨q, by omega, e⟩
        · exact ⟨p, Nat.le_refl _, e.trans (scanA_op0 k1 rfl)⟩
      · by_cases hie : i ≤ t.flat.length + 1 + e.flat.length
        · left
          obtain ⟨j, rfl⟩ : ∃ j, i = t.flat.length + 1 + j := ⟨i - t.flat.length - 1, by omega⟩
          rw [show p + (t.flat.length + 1 + j + 1) = p + t.flat.length + 2 + j by omega]
          rcases ihe _ (p + t.flat.length + 2) _ he h3 (by omega) j (by omega) with ⟨q, hq, e⟩ | e
          · exact ⟨q, by omega, e⟩
          · exact ⟨p, Nat.le_refl _, e.trans eels⟩
        · obtain ⟨j, rfl⟩ : ∃ j, i = t.flat.length + e.flat.length + 2 + j := ⟨i - t.flat.length - e.flat.length - 2, by omega⟩
          rw [show p + (t.flat.length + e.flat.length + 2 + j + 1) = p + t.flat.length + e.flat.length + 3 + j by omega]
          rcases ihr d (p + t.flat.length + e.flat.length + 3) rest hr h4 hlen j (by simp [Blk.flat] at hi; omega) with ⟨q, hq, e⟩ | e
          · exact .inl ⟨q, by omega, e⟩
          · exact .inr (e.trans e2)
  | loop a c t r iht ihr =>
    intro d p rest hok h hp i hi
    obtain ⟨ha, hc, hd1, ht, hr⟩ := hok
    have h' : l.drop p = cLoop a c :: (t.flat ++ cEnd :: (r.flat ++ rest)) := by rw [h]; simp [Blk.flat]
    obtain ⟨k1, k2, k3⟩ := drop_cons h'
    obtain ⟨_, _, h3⟩ := end_iff ht h'
    have hp2 : p + t.flat.length + 2 ≤ l.length := by
      have := congrArg List.length h'
      simp at this; omega
    have e2 : scanA l (p + t.flat.length + 2) 0 = scanA l p 0 := by
      have hb : (Blk.loop a c t .nil).ok d := ⟨ha, hc, hd1, ht, trivial⟩
      have := scanA_drop hb (rest := r.flat ++ rest) (l := l) (p := p) (by rw [h']; simp [Blk.flat]) hp
      rw [← this]
      congr 1
      simp [Blk.flat]; omega
    cases i with
    | zero => exact .inr rfl
    | succ i =>
      by_cases hit : i ≤ t.flat.length
      · left
        rw [show p + (i + 1) = p + 1 + i by omega]
        rcases iht _ (p + 1) _ ht k2 (by omega) i hit with ⟨q, hq, e⟩ | e
        · exact ⟨q, by omega, e⟩
        · exact ⟨p, Nat.le_refl _, e.trans (scanA_op0 k1 rfl)⟩
      · obtain ⟨j, rfl⟩ : ∃ j, i = t.flat.length + 1 + j := ⟨i - t.flat.length - 1, by omega⟩
        rw [show p + (t.flat.length + 1 + j + 1) = p + t.flat.length + 2 + j by omega]
        rcases ihr d (p + t.flat.length + 2) rest hr h3 hp2 j (by simp [Blk.flat] at hi; omega) with ⟨q, hq, e⟩ | e
        · exact .inl ⟨q, by omega, e⟩
        · exact .inr (e.trans e2)

/-! ### Barriers -/
def noB (l : List Cd) : Prop := ∀ x ∈ l, x.op ≠ 10
def topB : Blk → Prop
  | .nil => True
  | .op _ r => topB r
  | .iff _ t r => noB t.flat ∧ topB r
  | .ife _ t e r => noB t.flat ∧ noB e.flat ∧ topB r
  | .loop _ _ t r => noB t.flat ∧ topB r
theorem noB_of {l : List Cd} {b : Blk} {d p : Nat} {rest : List Cd} (hb : b.ok d) (h : l.drop p = b.flat ++ rest) (hp : p ≤ l.length) (h0 : ∃ q : Nat, scanA l p 0 = (q : Int)) (hf : ∀ k x, l[k]? = some x → x.op = 10 → aroundOf l k = -1) : noB b.flat := by
  intro x hx he
  obtain ⟨i, hi, rfl⟩ := List.getElem_of_mem hx
  have hk : l[p + i]? = some b.flat[i] := by
    rw [← List.getElem?_drop, h, List.getElem?_append_left hi, List.getElem?_eq_getElem hi]
  have h1 := hf _ _ hk he
  unfold aroundOf at h1
  obtain ⟨q0, hq0⟩ := h0
  rcases scanA_at b d p rest hb h hp i (by omega) with ⟨q, _, e⟩ | e
  · rw [e] at h1; omega
  · rw [e, hq0] at h1; omega
theorem topB_of {l : List Cd} (hf : ∀ k x, l[k]? = some x → x.op = 10 → aroundOf l k = -1) (b : Blk) : ∀ (d p : Nat) (rest : List Cd), b.ok d → l.drop p = b.flat ++ rest → p ≤ l.length → topB b := by
  induction b with
  | nil => intros; trivial
  | op x r ih =>
    intro d p rest ⟨_, _, _, hr⟩ h hp
    obtain ⟨k1, k2, k3⟩ := drop_cons (r := r.flat ++ rest) h
    exact ih d (p + 1) rest hr k2 (by omega)
  | iff a t r iht ihr =>
    intro d p rest ⟨ha, hd1, ht, hr⟩ h hp
    have h' : l.drop p = cIf a :: (t.flat ++ cEnd :: (r.flat ++ rest)) := by rw [h]; simp [Blk.flat]
    obtain ⟨k1, k2, k3⟩ := drop_cons h'
    obtain ⟨_, _, h3⟩ := end_iff ht h'
    have hp2 : p + t.flat.length + 2 ≤ l.length := by
      have := congrArg List.length h'
      simp at this; omega
    exact ⟨noB_of ht k2 (by omega) ⟨p, scanA_op0 k1 rfl⟩ hf, ihr d _ rest hr h3 hp2⟩
  | ife a t e r iht ihe ihr =>
    intro d p rest ⟨ha, hd1, ht, he, hr⟩ h hp
    have h' : l.drop p = cIf a :: (t.flat ++ cElse :: (e.flat ++ cEnd :: (r.flat ++ rest))) := by rw [h]; simp [Blk.flat]
    obtain ⟨k1, k2, k3⟩ := drop_cons h'
    obtain ⟨_, _, h3, h4⟩ := end_ife ht he h'
    have hlen : p + t.flat.length + e.flat.length + 3 ≤ l.length := by
      have := congrArg List.length h'
      simp at this; omega
    have hels := (drop_cons (drop_skip k2)).1
    have eels : scanA l (p + t.flat.length + 2) 0 = (p : Int) := by
      rw [show p + t.flat.length + 2 = p + 1 + t.flat.length + 1 by omega, scanA_nb hels rfl (by simp [cElse]), scanA_drop ht k2 (by omega)]
      exact scanA_op0 k1 rfl
    exact ⟨noB_of ht k2 (by omega) ⟨p, scanA_op0 k1 rfl⟩ hf, noB_of he h3 (by omega) ⟨p, eels⟩ hf, ihr d _ rest hr h4 hlen⟩
  | loop a c t r iht ihr =>
    intro d p rest ⟨ha, hc, hd1, ht, hr⟩ h hp
    have h' : l.drop p = cLoop a c :: (t.flat ++ cEnd :: (r.flat ++ rest)) := by rw [h]; simp [Blk.flat]
    obtain ⟨k1, k2, k3⟩ := drop_cons h'
    obtain ⟨_, _, h3⟩ := end_iff ht h'
    have hp2 : p + t.flat.length + 2 ≤ l.length := by
      have := congrArg List.length h'
      simp at this; omega
    exact ⟨noB_of ht k2 (by omega) ⟨p, scanA_op0 k1 rfl⟩ hf, ihr d _ rest hr h3 hp2⟩
theorem barr_on (g : GS) (x : Cd) (m : Nat) (h : x.op ≠ 10) : barr (g.on x m).ev = barr g.ev := by
  have e : (x.op == 10) = false := beq_eq_false_iff_ne.2 h
  simp [GS.on, barr, List.filter_append, List.filter_cons, e]
theorem turnsG_bar {f : Nat → GS → GS} (hf : ∀ m g, barr (f m g).ev = barr g.ev) (a : Int) : ∀ (b m : Nat) (g : GS), barr (turnsG f a b m g).ev = barr g.ev
  | 0, _, _ => rfl
  | b + 1, m, g => by simp only [turnsG]; rw [turnsG_bar hf a b, hf]
theorem noB_go (b : Blk) : ∀ (m : Nat) (g : GS), noB b.flat → barr (b.go m g).ev = barr g.ev := by
  induction b with
  | nil => intro m g _; rfl
  | op x r ih =>
    intro m g h
    simp only [Blk.go]
    split
    · rfl
    · have hx : x.op ≠ 10 := h x (by simp [Blk.flat])
      have e : (x.op == 10) = false := beq_eq_false_iff_ne.2 hx
      rw [ih m _ (fun y hy => h y (by simp [Blk.flat, hy]))]
      simp [barr, List.filter_append, List.filter_cons, e]
  | iff a t r iht ihr =>
    intro m g h
    simp only [Blk.go]
    split
    · rfl
    · rw [ihr m _ (fun y hy => h y (by simp [Blk.flat, hy])), iht _ _ (fun y hy => h y (by simp [Blk.flat, hy])), barr_on _ _ _ (by simp [cIf])]
  | ife a t e r iht ihe ihr =>
    intro m g h
    simp only [Blk.go]
    split
    · rfl
    · rw [ihr m _ (fun y hy => h y (by simp [Blk.flat, hy])), ihe _ _ (fun y hy => h y (by simp [Blk.flat, hy])), iht _ _ (fun y hy => h y (by simp [Blk.flat, hy])), barr_on _ _ _ (by simp [cIf])]
  | loop a c t r iht ihr =>
    intro m g h
    simp only [Blk.go]
    split
    · rfl
    · rw [ihr m _ (fun y hy => h y (by simp [Blk.flat, hy])), turnsG_bar (fun m g => iht m g (fun y hy => h y (by simp [Blk.flat, hy]))) a, barr_on _ _ _ (by simp [cLoop])]
def barsOf (l : List Cd) (m : Nat) : List (Cd × Nat) := (l.filter fun x => x.op == 10).map fun x => (x, m)
theorem bars_no {l : List Cd} (h : noB l) (m : Nat) : barsOf l m = [] := by
  unfold barsOf
  rw [List.filter_eq_nil_iff.2 (fun x hx => by simp [h x hx])]
  rfl
theorem bars_cons (x : Cd) (l : List Cd) (m : Nat) (h : x.op ≠ 10) : barsOf (x :: l) m = barsOf l m := by
  have e : (x.op == 10) = false := beq_eq_false_iff_ne.2 h
  simp [barsOf, List.filter_cons, e]
theorem bars_app (a b : List Cd) (m : Nat) : barsOf (a ++ b) m = barsOf a m ++ barsOf b m := by simp [barsOf]
theorem topB_go (b : Blk) : ∀ (m : Nat) (g : GS), topB b → m ≠ 0 → barr (b.go m g).ev = barr g.ev ++ barsOf b.flat m := by
  induction b with
  | nil => intro m g _ _; simp [Blk.go, Blk.flat, barsOf]
  | op x r ih =>
    intro m g h hm
    simp only [Blk.go, if_neg hm]
    rw [ih m _ h hm]
    simp only [Blk.flat]
    by_cases hx : x.op = 10
    · have e : (x.op == 10) = true := beq_iff_eq.2 hx
      simp [barr, barsOf, List.filter_append, List.filter_cons, e]
    · have e : (x.op == 10) = false := beq_eq_false_iff_ne.2 hx
      rw [bars_cons x _ m hx]
      simp [barr, List.filter_append, List.filter_cons, e]
  | iff a t r iht ihr =>
    intro m g ⟨h1, h2⟩ hm
    simp only [Blk.go, if_neg hm]
    rw [ihr m _ h2 hm, noB_go t _ _ h1, barr_on _ _ _ (by simp [cIf])]
    simp only [Blk.flat]
    rw [bars_cons _ _ m (by simp [cIf]), bars_app, bars_no h1, List.nil_append, bars_cons _ _ m (by simp [cEnd])]
  | ife a t e r iht ihe ihr =>
    intro m g ⟨h1, h2, h3⟩ hm
    simp only [Blk.go, if_neg hm]
    rw [ihr m _ h3 hm, noB_go e _ _ h2, noB_go t _ _ h1, barr_on _ _ _ (by simp [cIf])]
    simp only [Blk.flat]
    rw [bars_cons _ _ m (by simp [cIf]), bars_app, bars_no h1, List.nil_append, bars_cons _ _ m (by simp [cElse]), bars_app, bars_no h2, List.nil_append, bars_cons _ _ m (by simp [cEnd])]
  | loop a c t r iht ihr =>
    intro m g ⟨h1, h2⟩ hm
    simp only [Blk.go, if_neg hm]
    rw [ihr m _ h2 hm, turnsG_bar (fun m g => noB_go t m g h1) a, barr_on _ _ _ (by simp [cLoop])]
    simp only [Blk.flat]
    rw [bars_cons _ _ m (by simp [cLoop]), bars_app, bars_no h1, List.nil_append, bars_cons _ _ m (by simp [cEnd])]
/-- All barriers are in no block. -/
def flatP (l : List Cd) : Prop := ∀ k, k < l.length → (cdAt l k).op = 10 → aroundOf l k = -1
instance (l : List Cd) : Decidable (flatP l) := inferInstanceAs (Decidable (∀ k, k < l.length → (cdAt l k).op = 10 → aroundOf l k = -1))
def flatB (l : List Cd) : Bool := pv l && decide (flatP l)
theorem flat_law {l : List Cd} (hp : pv l = true) (hf : flatP l) {n : Nat} (hn : 1 ≤ n ∧ n ≤ 8) {m : List Int} (hm : memOk m = true) : splitB l n (lockS l n m).beats = false ∧ opsOf l 10 (traceOf l n m) = countOp l 10 := by
  obtain ⟨h1, h2⟩ := treeOf_spec hp
  have hf' : ∀ k x, l[k]? = some x → x.op = 10 → aroundOf l k = -1 := fun k x hx ho => hf k (List.getElem?_eq_some_iff.1 hx).1 (by rw [cdAt_get hx]; exact ho)
  have ht := topB_of hf' (treeOf l) 3 0 [] h1 (by simp [h2]) (Nat.zero_le _)
  have hk : 2 ^ n - 1 ≠ 0 := by
    have : 2 ^ 1 ≤ 2 ^ n := Nat.pow_le_pow_right (by decide) hn.1
    omega
  have hg : barr (goS l n m).ev = barsOf l (2 ^ n - 1) := by
    unfold goS
    rw [topB_go _ _ _ ht hk, h2]
    rfl
  rw [goS_eq hp] at hg
  have hg' : barr (evOf l (lockS l n m).beats) = barsOf l (2 ^ n - 1) := hg
  have hok : lockOk l n m = true := by
    have : inR (n : Int) 1 8 = true := inR_iff.2 (by omega)
    simp [lockOk, hp, hm, this]
  have htr : traceOf l n m = (lockS l n m).beats := by unfold traceOf; rw [if_pos hok, Int.toNat_natCast]
  have kin : ∀ q ∈ (lockS l n m).beats, q.1 < l.length := fun q hq => (trace_in (l := l) (n := n) (m := m) q (by rw [htr]; exact hq)).1
  refine ⟨?_, ?_⟩
  · rw [splitB_ev _ _ _ kin, hg']
    simp [barsOf]
  · rw [htr]
    have e : opsOf l 10 (lockS l n m).beats = (barr (evOf l (lockS l n m).beats)).length := by
      simp only [opsOf, barr, evOf, List.filter_map, List.length_map, List.countP_eq_length_filter]
      rfl
    rw [e, hg']
    simp [barsOf, countOp]

end Go.Proofs.Ytfgbbajkdpideaa
