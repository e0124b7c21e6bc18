/- Part 19 of what the claim needs. -/
import Derived.Test.YtelbfeidpcojmaaGreatLau11
import Derived.Test.YtelbfeidpcojmaaGreatLau12
import Derived.Test.YtelbfeidpcojmaaGreatLau13
import Derived.Test.YtelbfeidpcojmaaGreatLau14
import Derived.Test.YtelbfeidpcojmaaGreatLau15
import Derived.Test.YtelbfeidpcojmaaGreatLau18
import Derived.StillTailTactics
namespace Go.Proofs.YtelbfeidpcojmaaGreat
open Go.RowKit
set_option linter.unusedVariables false
set_option linter.unusedSimpArgs false

/-! ### One lane -/
/-- The registers of a lane are the same in a set. -/
def Ag (S : Nat) (r r' : List Int) : Prop := r.length = 4 ∧ r'.length = 4 ∧ ∀ i : Int, 0 ≤ i → i ≤ 3 → S.testBit i.toNat = true → rg r i = rg r' i
theorem Ag.mono {S S' : Nat} {r r' : List Int} (h : Ag S r r') (hs : sub S' S) : Ag S' r r' := ⟨h.1, h.2.1, fun i i0 i3 hi => h.2.2 i i0 i3 (hs _ hi)⟩
theorem Ag.setr {S S' : Nat} {r r' : List Int} (h : Ag S r r') {a : Int} (ha : 0 ≤ a ∧ a ≤ 3) (hs : sub (mdiff S' (2 ^ a.toNat)) S) (v : Int) : Ag S' (r.set a.toNat v) (r'.set a.toNat v) := by
  refine ⟨by simp [h.1], by simp [h.2.1], fun i i0 i3 hi => ?_⟩
  rw [rg_set r a i v h.1 ha ⟨i0, i3⟩, rg_set r' a i v h.2.1 ha ⟨i0, i3⟩]
  by_cases e : i = a
  · rw [if_pos e, if_pos e]
  · rw [if_neg e, if_neg e]
    refine h.2.2 i i0 i3 (hs _ ?_)
    rw [testBit_mdiff, hi, Nat.testBit_two_pow_of_ne (by omega)]; rfl
theorem bit_sub {a : Int} {S : Nat} (h : sub (2 ^ a.toNat) S) : S.testBit a.toNat = true := h _ (Nat.testBit_two_pow_self)
theorem simp1_ag {x : Cd} (hv : cvOk x = true) (h10 : x.op ≤ 10) (id : Nat) {S S' : Nat} {r r' m : List Int} (h : Ag S r r') (h1 : sub (reads x) S) (h2 : sub (mdiff S' (wset x)) S) :
    Ag S' (simp1 x id r m).1 (simp1 x id r' m).1 ∧ (simp1 x id r' m).2 = (simp1 x id r m).2 ∧ (x.op = 8 ∨ x.op = 9 → rg r' x.b = rg r x.b) := by
  have ha := cvOk_a hv
  have hc := cvOk_c hv
  have hb2 := cvOk_b2 hv
  have ho := op14' hv h10
  obtain ⟨o, a, b, c⟩ := x
  simp only at ha hc hb2 ho
  have S2 := fun v => h.setr (S' := S') ha (v := v)
  rcases ho with rfl | rfl | rfl | rfl | rfl | rfl | rfl | rfl | rfl | rfl
  · simp [wset, hv, inR] at h2
    exact ⟨S2 b h2, rfl, by simp⟩
  · simp [wset, hv, inR] at h2
    exact ⟨S2 id h2, rfl, by simp⟩
  · have hb := hb2 (by omega)
    simp [wset, hv, inR] at h2
    simp [reads, hv] at h1
    have ga := h.2.2 a ha.1 ha.2 (bit_sub ((sub_or_left _ _).trans h1))
    have gb := h.2.2 b hb.1 hb.2 (bit_sub ((sub_or_right _ _).trans h1))
    refine ⟨?_, rfl, by simp⟩
    show Ag S' (r.set a.toNat ((rg r a + rg r b) % 256)) (r'.set a.toNat ((rg r' a + rg r' b) % 256))
    rw [← ga, ← gb]; exact S2 _ h2
  · have hb := hb2 (by omega)
    simp [wset, hv, inR] at h2
    simp [reads, hv] at h1
    have ga := h.2.2 a ha.1 ha.2 (bit_sub ((sub_or_left _ _).trans h1))
    have gb := h.2.2 b hb.1 hb.2 (bit_sub ((sub_or_right _ _).trans h1))
    refine ⟨?_, rfl, by simp⟩
    show Ag S' (r.set a.toNat (rg r a * rg r b % 256)) (r'.set a.toNat (rg r' a * rg r' b % 256))
    rw [← ga, ← gb]; exact S2 _ h2
  · have hb := hb2 (by omega)
    simp [wset, hv, inR] at h2
    simp [reads, hv] at h1
    have gb := h.2.2 b hb.1 hb.2 (bit_sub h1)
    refine ⟨?_, rfl, by simp⟩
    show Ag S' (r.set a.toNat (rg r b)) (r'.set a.toNat (rg r' b))
    rw [← gb]; exact S2 _ h2
  · have hb := hb2 (by omega)
    simp [wset, hv, inR] at h2
    simp [reads, hv] at h1
    have gb := h.2.2 b hb.1 hb.2 (bit_sub ((sub_or_left _ _).trans h1))
    have gc := h.2.2 c hc.1 hc.2 (bit_sub ((sub_or_right _ _).trans h1))
    refine ⟨?_, rfl, by simp⟩
    show Ag S' (r.set a.toNat (lessI (rg r b) (rg r c))) (r'.set a.toNat (lessI (rg r' b) (rg r' c)))
    rw [← gb, ← gc]; exact S2 _ h2
  · have hb := hb2 (by omega)
    simp [wset, hv, inR] at h2
    simp [reads, hv] at h1
    have ga' : S.testBit a.toNat = true := bit_sub (((sub_or_left _ _).trans (sub_or_left _ _)).trans h1)
    have ga := h.2.2 a ha.1 ha.2 ga'
    have gb := h.2.2 b hb.1 hb.2 (bit_sub (((sub_or_right _ _).trans (sub_or_left _ _)).trans h1))
    have gc := h.2.2 c hc.1 hc.2 (bit_sub ((sub_or_right _ _).trans h1))
    refine ⟨?_, rfl, by simp⟩
    show Ag S' (if rg r c == 0 then r else r.set a.toNat (rg r b)) (if rg r' c == 0 then r' else r'.set a.toNat (rg r' b))
    rw [← gb, ← gc]
    cases rg r c == 0
    · exact S2 _ h2
    · refine h.mono fun i hi => ?_
      by_cases e : i = a.toNat
      · rw [e]; exact ga'
      · refine h2 _ ?_
        rw [testBit_mdiff, hi, Nat.testBit_two_pow_of_ne (by omega)]; rfl
  · have hb := hb2 (by omega)
    simp [wset, hv, inR] at h2
    simp [reads, hv] at h1
    have gb := h.2.2 b hb.1 hb.2 (bit_sub h1)
    refine ⟨?_, rfl, fun _ => gb.symm⟩
    show Ag S' (r.set a.toNat (m.getD (rg r b % m.length).toNat 0)) (r'.set a.toNat (m.getD (rg r' b % m.length).toNat 0))
    rw [← gb]; exact S2 _ h2
  · have hb := hb2 (by omega)
    simp [wset, inR] at h2
    simp [reads, hv] at h1
    rw [mdiff_zero'] at h2
    have ga := h.2.2 a ha.1 ha.2 (bit_sub ((sub_or_left _ _).trans h1))
    have gb := h.2.2 b hb.1 hb.2 (bit_sub ((sub_or_right _ _).trans h1))
    refine ⟨h.mono h2, ?_, fun _ => gb.symm⟩
    show m.set (rg r' b % m.length).toNat (rg r' a) = m.set (rg r b % m.length).toNat (rg r a)
    rw [ga, gb]
  · simp [wset, inR] at h2
    rw [mdiff_zero'] at h2
    exact ⟨h.mono h2, rfl, by simp⟩
/-- An instruction whose register is not in the set. -/
theorem simp1_dead {x : Cd} (h8 : 1 ≤ x.op ∧ x.op ≤ 8) (hv : cvOk x = true) (id : Nat) {S : Nat} {r r' m : List Int} (h : Ag S r r') (hn : S.testBit x.a.toNat = false) :
    Ag S (simp1 x id r m).1 r' ∧ (simp1 x id r m).2 = m := by
  have ha := cvOk_a hv
  have K : ∀ v, Ag S (r.set x.a.toNat v) r' := fun v => by
    refine ⟨by simp [h.1], h.2.1, fun i i0 i3 hi => ?_⟩
    rw [rg_set r x.a i v h.1 ha ⟨i0, i3⟩]
    by_cases e : i = x.a
    · rw [e, hn] at hi; cases hi
    · rw [if_neg e]; exact h.2.2 i i0 i3 hi
  have ho : x.op = 1 ∨ x.op = 2 ∨ x.op = 3 ∨ x.op = 4 ∨ x.op = 5 ∨ x.op = 6 ∨ x.op = 7 ∨ x.op = 8 := by omega
  unfold simp1
  rcases ho with e | e | e | e | e | e | e | e <;> simp [e, K]
  split
  · exact h
  · exact K _

/-! ### All lanes -/
structure LR (n : Nat) (L : Nat → Nat) (g h : GS) : Prop where
  lg : g.s.regs.length = n
  lh : h.s.regs.length = n
  ag : ∀ k, k < n → Ag (L k) (g.s.regs.getD k []) (h.s.regs.getD k [])
  mem : h.s.mem = g.s.mem
  ph : h.s.phase = g.s.phase
  wr : h.s.accs.filter (fun q => q.wr) = g.s.accs.filter (fun q => q.wr)
  al : h.s.accs.Sublist g.s.accs
  br : barr h.ev = barr g.ev
  el : h.ev.length ≤ g.ev.length
theorem LR.mono {n : Nat} {L L' : Nat → Nat} {g h : GS} (k : LR n L g h) (hs : ∀ j, j < n → sub (L' j) (L j)) : LR n L' g h :=
  ⟨k.lg, k.lh, fun j hj => (k.ag j hj).mono (hs j hj), k.mem, k.ph, k.wr, k.al, k.br, k.el⟩
theorem barr_snoc (ev : List (Cd × Nat)) (x : Cd) (m : Nat) : barr (ev ++ [(x, m)]) = barr ev ++ (if x.op == 10 then [(x, m)] else []) := by
  simp only [barr, List.filter_append, List.filter_cons, List.filter_nil]
theorem LR.on {n : Nat} {L : Nat → Nat} {g h : GS} (k : LR n L g h) (x : Cd) (m : Nat) : LR n L (g.on x m) (h.on x m) :=
  ⟨k.lg, k.lh, k.ag, k.mem, k.ph, k.wr, k.al, by show barr (h.ev ++ _) = barr (g.ev ++ _); rw [barr_snoc, barr_snoc, k.br], by have := k.el; show (h.ev ++ _).length ≤ (g.ev ++ _).length; simp; exact this⟩
theorem LR.ones {n : Nat} (n8 : n ≤ 8) {L : Nat → Nat} {g h : GS} (k : LR n L g h) {a : Int} (ha : 0 ≤ a ∧ a ≤ 3) {m : Nat} (hm : m < 2 ^ n) (hL : ∀ j, j < n → m.testBit j = true → (L j).testBit a.toNat = true) : onesOf m a h.s = onesOf m a g.s := by
  have m8 : m < 2 ^ 8 := Nat.lt_of_lt_of_le hm (Nat.pow_le_pow_right (by decide) n8)
  apply Nat.eq_of_testBit_eq
  intro i
  rw [onesOf_bit _ _ _ _ m8, onesOf_bit _ _ _ _ m8]
  cases hb : m.testBit i with
  | false => rfl
  | true =>
    have hi : i < n := by
      refine Nat.lt_of_not_le fun h => ?_
      rw [testBit_high hm h] at hb; cases hb
    have := (k.ag i hi).2.2 a ha.1 ha.2 (hL i hi hb)
    simp only [LS.reg, this]
theorem getD_set_ne {l : List (List Int)} {k j : Nat} (v : List Int) (h : j ≠ k) : (l.set k v).getD j [] = l.getD j [] := by
  rw [List.getD_eq_getElem?_getD, List.getD_eq_getElem?_getD, List.getElem?_set_ne (fun e => h e.symm)]
/-- The relation without the events. -/
structure LQ (n : Nat) (L : Nat → Nat) (s t : LS) : Prop where
  lg : s.regs.length = n
  lh : t.regs.length = n
  ag : ∀ k, k < n → Ag (L k) (s.regs.getD k []) (t.regs.getD k [])
  mem : t.mem = s.mem
  ph : t.phase = s.phase
  wr : t.accs.filter (fun q => q.wr) = s.accs.filter (fun q => q.wr)
  al : t.accs.Sublist s.accs
theorem LR.q {n : Nat} {L : Nat → Nat} {g h : GS} (k : LR n L g h) : LQ n L g.s h.s := ⟨k.lg, k.lh, k.ag, k.mem, k.ph, k.wr, k.al⟩
theorem LQ.r {n : Nat} {L : Nat → Nat} {s t : LS} (k : LQ n L s t) {e f : List (Cd × Nat)} (hb : barr f = barr e) (hl : f.length ≤ e.length) : LR n L ⟨s, e⟩ ⟨t, f⟩ := ⟨k.lg, k.lh, k.ag, k.mem, k.ph, k.wr, k.al, hb, hl⟩
theorem LQ.mono {n : Nat} {L L' : Nat → Nat} {g h : LS} (k : LQ n L g h) (hs : ∀ j, j < n → sub (L' j) (L j)) : LQ n L' g h :=
  ⟨k.lg, k.lh, fun j hj => (k.ag j hj).mono (hs j hj), k.mem, k.ph, k.wr, k.al⟩
theorem LQ.exec1 {n : Nat} {L : Nat → Nat} {s t : LS} (k : LQ n L s t) {x : Cd} (hv : cvOk x = true) (h10 : x.op ≤ 10) {S S' : Nat} {j : Nat} (hj : j < n) (hL : L j = S) (h1 : sub (reads x) S) (h2 : sub (mdiff S' (wset x)) S) :
    LQ n (fun i => if i = j then S' else L i) (exec1 x s j) (exec1 x t j) := by
  obtain ⟨e1, e2, e3⟩ := simp1_ag hv h10 j (m := s.mem) (hL ▸ k.ag j hj) h1 h2
  refine ⟨by simp [Proofs.YtelbfeidpcojmaaGreat.exec1, k.lg], by simp [Proofs.YtelbfeidpcojmaaGreat.exec1, k.lh], fun i hi => ?_, by simp only [Proofs.YtelbfeidpcojmaaGreat.exec1, k.mem]; exact e2, k.ph, ?_, ?_⟩
  · simp only [Proofs.YtelbfeidpcojmaaGreat.exec1, k.mem]
    by_cases e : i = j
    · subst e
      rw [if_pos rfl, getD_set_list _ (by rw [k.lg]; exact hi), getD_set_list _ (by rw [k.lh]; exact hi), if_pos rfl, if_pos rfl]
      exact e1
    · rw [if_neg e, getD_set_ne _ e, getD_set_ne _ e]
      exact k.ag i hi
  · simp only [Proofs.YtelbfeidpcojmaaGreat.exec1]
    by_cases hm : memOp x = true
    · rw [if_pos hm, if_pos hm, List.filter_append, List.filter_append, k.wr]
      congr 1
      by_cases h9 : x.op = 9
      · simp only [LS.reg, e3 (.inr h9), k.mem, k.ph]
      · have : (x.op == 9) = false := beq_eq_false_iff_ne.2 h9
        simp [this]
    · rw [if_neg hm, if_neg hm]; exact k.wr
  · simp only [Proofs.YtelbfeidpcojmaaGreat.exec1]
    have := k.al
    by_cases hm : memOp x = true
    · rw [if_pos hm, if_pos hm]
      have h89 : x.op = 8 ∨ x.op = 9 := by simpa [memOp] using hm
      have hr : t.reg j x.b = s.reg j x.b := e3 h89
      rw [hr, k.mem, k.ph]
      exact this.append (List.Sublist.refl _)
    · rw [if_neg hm, if_neg hm]; exact this
theorem LQ.dead1 {n : Nat} {L : Nat → Nat} {s t : LS} (k : LQ n L s t) {x : Cd} (hv : cvOk x = true) (h8 : 1 ≤ x.op ∧ x.op ≤ 8) {j : Nat} (hj : j < n) (hn : (L j).testBit x.a.toNat = false) :
    LQ n L (Proofs.YtelbfeidpcojmaaGreat.exec1 x s j) t := by
  obtain ⟨e1, e2⟩ := simp1_dead h8 hv j (m := s.mem) (k.ag j hj) hn
  refine ⟨by simp [Proofs.YtelbfeidpcojmaaGreat.exec1, k.lg], k.lh, fun i hi => ?_, by simp only [Proofs.YtelbfeidpcojmaaGreat.exec1]; rw [e2]; exact k.mem, k.ph, ?_, ?_⟩
  · simp only [Proofs.YtelbfeidpcojmaaGreat.exec1]
    by_cases e : i = j
    · subst e
      rw [getD_set_list _ (by rw [k.lg]; exact hi), if_pos rfl]
      exact e1
    · rw [getD_set_ne _ e]
      exact k.ag i hi
  · have : (x.op == 9) = false := beq_eq_false_iff_ne.2 (by omega)
    simp only [Proofs.YtelbfeidpcojmaaGreat.exec1]
    split
    · rw [List.filter_append, k.wr]; simp [this]
    · exact k.wr
  · have := k.al
    simp only [Proofs.YtelbfeidpcojmaaGreat.exec1]
    split
    · exact this.trans (List.sublist_append_left _ _)
    · exact this
theorem LQ.execTo {n : Nat} {L : Nat → Nat} {s t : LS} (k : LQ n L s t) {x : Cd} (hv : cvOk x = true) (h10 : x.op ≤ 10) {S S' m : Nat} (hL : ∀ j, j < n → m.testBit j = true → L j = S) (h1 : sub (reads x) S) (h2 : sub (mdiff S' (wset x)) S) :
    ∀ j, j ≤ n → LQ n (fun i => if m.testBit i = true ∧ i < j then S' else L i) (execTo x m s j) (execTo x m t j)
  | 0, _ => by simpa [Proofs.YtelbfeidpcojmaaGreat.execTo] using k
  | j + 1, hj => by
    have ih := LQ.execTo k hv h10 hL h1 h2 j (by omega)
    simp only [Proofs.YtelbfeidpcojmaaGreat.execTo]
    cases hb : m.testBit j with
    | true =>
      have hLj := hL j (by omega) hb
      simp only [if_true]
      refine (ih.exec1 hv h10 (S := S) (S' := S') (j := j) (by omega) (by simp [hLj]) h1 h2).mono fun i hi => ?_
      by_cases e : i = j
      · subst e; simp [hb]; exact sub.refl _
      · rw [if_neg e]
        have : (i < j + 1) = (i < j) := by simp; omega
        simp only [this]; exact sub.refl _
    | false =>
      simp only [Bool.false_eq_true, if_false]
      refine ih.mono fun i hi => ?_
      by_cases e : i = j
      · subst e; simp [hb]; exact sub.refl _
      · have : (i < j + 1) = (i < j) := by simp; omega
        simp only [this]; exact sub.refl _
theorem LQ.deadTo {n : Nat} {L : Nat → Nat} {s t : LS} (k : LQ n L s t) {x : Cd} (hv : cvOk x = true) (h8 : 1 ≤ x.op ∧ x.op ≤ 8) {m : Nat} (hn : ∀ j, j < n → m.testBit j = true → (L j).testBit x.a.toNat = false) :
    ∀ j, j ≤ n → LQ n L (Proofs.YtelbfeidpcojmaaGreat.execTo x m s j) t
  | 0, _ => k
  | j + 1, hj => by
    have ih := LQ.deadTo k hv h8 hn j (by omega)
    simp only [Proofs.YtelbfeidpcojmaaGreat.execTo]
    cases hb : m.testBit j with
    | true => simp only [if_true]; exact ih.dead1 hv h8 (by omega) (hn j (by omega) hb)
    | false => simp only [Bool.false_eq_true, if_false]; exact ih
theorem LQ.execM {n : Nat} (n8 : n ≤ 8) {L : Nat → Nat} {s t : LS} (k : LQ n L s t) {x : Cd} (hv : cvOk x = true) (h10 : x.op ≤ 10) {S S' m : Nat} (hm : m < 2 ^ n) (hL : ∀ j, j < n → m.testBit j = true → L j = S) (h1 : sub (reads x) S) (h2 : sub (mdiff S' (wset x)) S) :
    LQ n (fun i => if m.testBit i = true then S' else L i) (execM x m s) (execM x m t) := by
  rw [execM_eq hm n8, execM_eq hm n8]
  have := (k.execTo hv h10 hL h1 h2 n (Nat.le_refl _)).mono (L' := fun i => if m.testBit i = true then S' else L i) (fun i hi => by simp [hi]; exact sub.refl _)
  split
  · exact ⟨this.lg, this.lh, this.ag, this.mem, by simp [this.ph], this.wr, this.al⟩
  · exact this
theorem LQ.deadM {n : Nat} (n8 : n ≤ 8) {L : Nat → Nat} {s t : LS} (k : LQ n L s t) {x : Cd} (hv : cvOk x = true) (h8 : 1 ≤ x.op ∧ x.op ≤ 8) {m : Nat} (hm : m < 2 ^ n) (hn : ∀ j, j < n → m.testBit j = true → (L j).testBit x.a.toNat = false) :
    LQ n L (Proofs.YtelbfeidpcojmaaGreat.execM x m s) t := by
  rw [execM_eq hm n8]
  have : (x.op == 10) = false := beq_eq_false_iff_ne.2 (by omega)
  rw [this]
  exact k.deadTo hv h8 hn n (Nat.le_refl _)

/-! ### The sets at the places of a tree -/
section
variable {l : List Cd} {s : Nat → Nat}
theorem fix_eq (hF : Fix l s) {k : Nat} (hk : k < l.length) : s k = liveAt l s k := hF.2 k hk
theorem fold_or_mem {s : Nat → Nat} {t : Nat} : ∀ (L : List Nat) (a : Nat), t ∈ L ∨ sub (s t) a → sub (s t) (L.foldl (fun m t => m ||| s t) a)
  | [], a, h => by rcases h with h | h; cases h; exact h
  | x :: L, a, h => by
    refine fold_or_mem L _ ?_
    rcases h with h | h
    · rcases List.mem_cons.1 h with rfl | h
      · exact .inr (sub_or_right _ _)
      · exact .inl h
    · exact .inr (h.trans (sub_or_left _ _))
theorem succ_out {k t : Nat} (h : t ∈ succs l k) : sub (s t) (outSet l s k) := fold_or_mem _ _ (.inl h)
theorem live_reads (hF : Fix l s) {k : Nat} {x : Cd} (hx : l[k]? = some x) : sub (reads x) (s k) := by
  have hk := (List.getElem?_eq_some_iff.1 hx).1
  rw [fix_eq hF hk, liveAt, cdAt_get hx]
  exact (sub_or_right _ _).trans (sub_or_left _ _)
theorem live_out (hF : Fix l s) {k : Nat} {x : Cd} (hx : l[k]? = some x) : sub (mdiff (outSet l s k) (wset x)) (s k) := by
  have hk := (List.getElem?_eq_some_iff.1 hx).1
  rw [fix_eq hF hk, liveAt, cdAt_get hx]
  exact (sub_or_left _ _).trans (sub_or_left _ _)
theorem live_succ (hF : Fix l s) {k t : Nat} {x : Cd} (hx : l[k]? = some x) (h10 : 10 < x.op) (ht : t ∈ succs l k) : sub (s t) (s k) := by
  have h := live_out hF hx
  have hw : wset x = 0 := by
    unfold wset
    have : inR x.op 1 8 = false := inR_not.2 (by omega)
    simp [this]
  rw [hw, mdiff_zero'] at h
  exact (succ_out ht).trans h
theorem around_tree {q d : Nat} {x : Cd} {t : Blk} {r : List Cd} (ht : t.ok d) (ho : opB x = true) (h : l.drop q = x :: (t.flat ++ r)) : aroundN l (q + t.flat.length + 1) = q := by
  obtain ⟨h1, h2, h3⟩ := drop_cons h
  have e0 : l = (l.take q ++ [x]) ++ (t.flat ++ r) := by
    conv => lhs; rw [← List.take_append_drop q l, h]
    simp
  have hl : (l.take q ++ [x]).length = q + 1 := by simp [List.length_take]; omega
  have := scanA_flat t d (l.take q ++ [x]) r 0 ht
  rw [← e0, hl] at this
  unfold aroundN aroundOf
  rw [show q + t.flat.length + 1 = q + 1 + t.flat.length by omega, this, scanA_step l q 0 x h1, if_pos ho]
  rfl
theorem opAt_drop {q : Nat} {x : Cd} {r : List Cd} (h : l.drop q = x :: r) : opAt l q = x.op := opAt_get (drop_cons h).1
theorem succs_if {q e : Nat} {x : Cd} (hx : l[q]? = some x) (ho : opB x = true) (he : overN l q = e) : (q + 1) ∈ succs l q ∧ e ∈ succs l q := by
  have ho' : (opAt l q == 11 || opAt l q == 13) = true := by rw [opAt_get hx]; exact ho
  unfold succs
  rw [if_pos ho', he]
  split
  · rename_i h; rw [h]; exact ⟨List.mem_cons_self, List.mem_cons_self⟩
  · exact ⟨List.mem_cons_self, by simp⟩
theorem succs_end {q : Nat} {x : Cd} (hx : l[q]? = some x) (ho : x.op = 14) : (q + 1) ∈ succs l q ∧ (opAt l (aroundN l q) = 13 → (aroundN l q + 1) ∈ succs l q) := by
  unfold succs
  rw [opAt_get hx, ho]
  simp only [show ((14 : Int) == 11 || (14 : Int) == 13) = false from rfl, show ((14 : Int) == 12) = false from rfl, show ((14 : Int) == 14) = true from rfl, if_true, Bool.false_eq_true, if_false]
  split
  · exact ⟨by simp, fun _ => List.mem_cons_self⟩
  · rename_i h
    exact ⟨List.mem_cons_self, fun h' => absurd (beq_iff_eq.2 h') h⟩
theorem succs_else {q : Nat} {x : Cd} (hx : l[q]? = some x) (ho : x.op = 12) : (endN l (aroundN l q) + 1) ∈ succs l q := by
  unfold succs
  rw [opAt_get hx, ho]
  simp only [show ((12 : Int) == 11 || (12 : Int) == 13) = false from rfl, show ((12 : Int) == 12) = true from rfl, if_true, Bool.false_eq_true, if_false]
  exact List.mem_cons_self
theorem succs_op {q : Nat} {x : Cd} (hx : l[q]? = some x) (ho : x.op ≤ 10) : succs l q = [q + 1] := by
  unfold succs
  rw [opAt_get hx]
  have h1 : (x.op == 11 || x.op == 13) = false := by
    have e1 : (x.op == 11) = false := beq_eq_false_iff_ne.2 (by omega)
    have e2 : (x.op == 13) = false := beq_eq_false_iff_ne.2 (by omega)
    rw [e1, e2]; rfl
  have h2 : (x.op == 12) = false := beq_eq_false_iff_ne.2 (by omega)
  have h3 : (x.op == 14) = false := beq_eq_false_iff_ne.2 (by omega)
  simp [h1, h2, h3]
theorem live_op (hF : Fix l s) {q : Nat} {x : Cd} (hx : l[q]? = some x) (ho : x.op ≤ 10) : sub (mdiff (s (q + 1)) (wset x)) (s q) := by
  have h := live_out hF hx
  have e : outSet l s q = s (q + 1) := by simp [outSet, succs_op hx ho]
  rwa [e] at h
/-- An open place: what is live at its first instruction, behind it, and its register. -/
theorem live_iff (hF : Fix l s) {q d : Nat} {a : Int} {t : Blk} {r : List Cd} (hv : cvOk (cIf a) = true) (ht : t.ok d) (h : l.drop q = cIf a :: (t.flat ++ cEnd :: r)) :
    sub (s (q + 1)) (s q) ∧ sub (s (q + t.flat.length + 2)) (s q) ∧ (s q).testBit a.toNat = true ∧ sub (s (q + t.flat.length + 2)) (s (q + t.flat.length + 1)) := by
  obtain ⟨h1, h2, h3⟩ := drop_cons h
  obtain ⟨k1, k2, k3⟩ := end_iff ht h
  have ho : overN l q = q + t.flat.length + 2 := by
    unfold overN elseAt endN
    rw [k1]; simp only [Int.reduceNeg, show ¬ ((0 : Int) ≤ -1) by decide, if_false]
    omega
  obtain ⟨m1, m2⟩ := succs_if h1 (opB_if a) ho
  have hend : l[q + t.flat.length + 1]? = some cEnd := by
    have := (drop_cons (drop_skip h2)).1
    rw [← this]; congr 1; omega
  have hr := live_reads hF h1
  refine ⟨live_succ hF h1 (by simp [cIf]) m1, live_succ hF h1 (by simp [cIf]) m2, hr _ ?_, live_succ hF hend (by simp [cEnd]) (succs_end hend rfl).1⟩
  simp only [reads, hv, if_true]
  simp [cIf]
theorem live_loop (hF : Fix l s) {q d : Nat} {a b : Int} {t : Blk} {r : List Cd} (hp : pv l = true) (hv : cvOk (cLoop a b) = true) (ht : t.ok d) (h : l.drop q = cLoop a b :: (t.flat ++ cEnd :: r)) :
    sub (s (q + 1)) (s q) ∧ sub (s (q + t.flat.length + 2)) (s q) ∧ (s q).testBit a.toNat = true ∧
    sub (s (q + 1)) (s (q + t.flat.length + 1)) ∧ sub (s (q + t.flat.length + 2)) (s (q + t.flat.length + 1)) ∧ (s (q + t.flat.length + 1)).testBit a.toNat = true := by
  obtain ⟨h1, h2, h3⟩ := drop_cons h
  obtain ⟨k1, k2, k3⟩ := end_iff ht h
  have ho : overN l q = q + t.flat.length + 2 := by
    unfold overN elseAt endN
    rw [k1]; simp only [Int.reduceNeg, show ¬ ((0 : Int) ≤ -1) by decide, if_false]
    omega
  obtain ⟨m1, m2⟩ := succs_if h1 (opB_loop a b) ho
  have hend : l[q + t.flat.length + 1]? = some cEnd := by
    have := (drop_cons (drop_skip h2)).1
    rw [← this]; congr 1; omega
  have har := around_tree ht (opB_loop a b) h
  have h13 : opAt l (aroundN l (q + t.flat.length + 1)) = 13 := by rw [har, opAt_get h1]; rfl
  obtain ⟨n1, n2⟩ := succs_end hend rfl
  have n3 := n2 h13
  rw [har] at n3
  have hr := live_reads hF h1
  refine ⟨live_succ hF h1 (by simp [cLoop]) m1, live_succ hF h1 (by simp [cLoop]) m2, hr _ ?_, live_succ hF hend (by simp [cEnd]) n3, live_succ hF hend (by simp [cEnd]) n1, ?_⟩
  · simp only [reads, hv, if_true]
    simp [cLoop]
  · have hk := (List.getElem?_eq_some_iff.1 hend).1
    rw [fix_eq hF hk, liveAt, Nat.testBit_or]
    have : (loopSet l (q + t.flat.length + 1)).testBit a.toNat = true := by
      unfold loopSet
      rw [h13, opAt_get hend, har, cdAt_get h1]
      simp [cEnd, cLoop]
    rw [this, Bool.or_true]
theorem live_ife (hF : Fix l s) {q d d' : Nat} {a : Int} {t e : Blk} {r : List Cd} (hv : cvOk (cIf a) = true) (ht : t.ok d) (he : e.ok d') (h : l.drop q = cIf a :: (t.flat ++ cElse :: (e.flat ++ cEnd :: r))) :
    sub (s (q + 1)) (s q) ∧ sub (s (q + t.flat.length + 2)) (s q) ∧ (s q).testBit a.toNat = true ∧
    sub (s (q + t.flat.length + e.flat.length + 3)) (s (q + t.flat.length + 1)) ∧ sub (s (q + t.flat.length + e.flat.length + 3)) (s (q + t.flat.length + e.flat.length + 2)) := by
  obtain ⟨h1, h2, h3⟩ := drop_cons h
  obtain ⟨k1, k2, k3, k4⟩ := end_ife ht he h
  have ho : overN l q = q + t.flat.length + 2 := by
    unfold overN elseAt endN
    rw [k1]; simp only []
    rw [if_pos (by omega)]; omega
  obtain ⟨m1, m2⟩ := succs_if h1 (opB_if a) ho
  have hels : l[q + t.flat.length + 1]? = some cElse := by
    have := (drop_cons (drop_skip h2)).1
    rw [← this]; congr 1; omega
  have hend : l[q + t.flat.length + e.flat.length + 2]? = some cEnd := by
    have := (drop_cons (drop_skip k3)).1
    rw [← this]; congr 1; omega
  have har := around_tree ht (opB_if a) (r := cElse :: (e.flat ++ cEnd :: r)) h
  have hen : endN l q = q + t.flat.length + e.flat.length + 2 := by
    unfold endN; rw [k1]; simp only []; omega
  have n1 := succs_else hels rfl
  rw [har, hen] at n1
  have hr := live_reads hF h1
  refine ⟨live_succ hF h1 (by simp [cIf]) m1, live_succ hF h1 (by simp [cIf]) m2, hr _ ?_, live_succ hF hels (by simp [cElse]) n1, live_succ hF hend (by simp [cEnd]) (succs_end hend rfl).1⟩
  simp only [reads, hv, if_true]
  simp [cIf]
end

/-! ### Dropping in a tree -/
def Blk.dropT (D : Nat → Bool) : Blk → Nat → Blk
  | .nil, _ => .nil
  | .op x r, p => if D p then r.dropT D (p + 1) else .op x (r.dropT D (p + 1))
  | .iff a t r, p => .iff a (t.dropT D (p + 1)) (r.dropT D (p + t.flat.length + 2))
  | .ife a t e r, p => .ife a (t.dropT D (p + 1)) (e.dropT D (p + t.flat.length + 2)) (r.dropT D (p + t.flat.length + e.flat.length + 3))
  | .loop a b t r, p => .loop a b (t.dropT D (p + 1)) (r.dropT D (p + t.flat.length + 2))
theorem dropT_ok (D : Nat → Bool) (b : Blk) : ∀ (d p : Nat), b.ok d → (b.dropT D p).ok d := by
  induction b with
  | nil => intro d p h; exact h
  | op x r ih =>
    intro d p ⟨h1, h2, h3, h4⟩
    simp only [Blk.dropT]
    split
    · exact ih d _ h4
    · exact ⟨h1, h2, h3, ih d _ h4⟩
  | iff a t r iht ihr => intro d p ⟨h1, h2, h3, h4⟩; exact ⟨h1, h2, iht _ _ h3, ihr d _ h4⟩
  | ife a t e r iht ihe ihr => intro d p ⟨h1, h2, h3, h4, h5⟩; exact ⟨h1, h2, iht _ _ h3, ihe _ _ h4, ihr d _ h5⟩
  | loop a c t r iht ihr => intro d p ⟨h1, h2, h3, h4, h5⟩; exact ⟨h1, h2, h3, iht _ _ h4, ihr d _ h5⟩
theorem dead_op {l : List Cd} {p : Nat} (h : deadB l p = true) : 1 ≤ (cdAt l p).op ∧ (cdAt l p).op ≤ 8 ∧ (outSet l (liveFix l) p).testBit (cdAt l p).a.toNat = false := by
  unfold deadB wset at h
  split at h
  · rename_i h1
    simp only [Bool.and_eq_true] at h1
    have h8 := inR_iff.1 h1.2
    refine ⟨h8.1, h8.2, ?_⟩
    cases hb : (outSet l (liveFix l) p).testBit (cdAt l p).a.toNat with
    | false => rfl
    | true =>
      exfalso
      have : mdiff (2 ^ (cdAt l p).a.toNat) (outSet l (liveFix l) p) = 0 := by
        apply Nat.eq_of_testBit_eq
        intro i
        rw [testBit_mdiff, Nat.zero_testBit]
        by_cases e : i = (cdAt l p).a.toNat
        · rw [e, hb]; simp
        · rw [Nat.testBit_two_pow_of_ne (fun h => e h.symm)]; rfl
      rw [this] at h
      simp at h
  · rw [mdiff_zero] at h; simp at h
theorem LRturns {n : Nat} (n8 : n ≤ 8) {f f' : Nat → GS → GS} {a : Int} (ha : 0 ≤ a ∧ a ≤ 3) {S1 S2 S3 : Nat} (h31 : sub S1 S3) (h32 : sub S2 S3) (h3a : S3.testBit a.toNat = true)
    (hf : ∀ (m : Nat) (L : Nat → Nat) (g h : GS), m < 2 ^ n → LR n L g h → (∀ k, k < n → m.testBit k = true → sub S1 (L k)) → LR n (fun k => if m.testBit k then S3 else L k) (f m g) (f' m h)) :
    ∀ (b m : Nat) (L : Nat → Nat) (g h : GS), m < 2 ^ n → LR n L g h → (∀ k, k < n → m.testBit k = true → (L k).testBit a.toNat = true ∧ sub S1 (L k) ∧ sub S2 (L k)) → LR n (fun k => if m.testBit k then S2 else L k) (turnsG f a b m g) (turnsG f' a b m h)
  | 0, m, L, g, h, hm, k, hL => by
    refine k.mono fun j hj => ?_
    split
    · rename_i hb; exact (hL j hj hb).2.2
    · exact sub.refl _
  | b + 1, m, L, g, h, hm, k, hL => by
    have e := k.ones n8 ha hm (fun j hj hb => (hL j hj hb).1)
    simp only [turnsG]
    rw [e]
    have hlt := onesOf_lt hm n8 a g.s
    have hb1 : ∀ j, (onesOf m a g.s).testBit j = true → m.testBit j = true := fun j hj => by
      rw [onesOf_bit _ _ _ _ (Nat.lt_of_lt_of_le hm (Nat.pow_le_pow_right (by decide) n8))] at hj
      simp only [Bool.and_eq_true] at hj
      exact hj.1
    have k1 := hf _ L g h hlt k (fun j hj hb => (hL j hj (hb1 j hb)).2.1)
    refine (LRturns n8 ha h31 h32 h3a hf b _ _ _ _ hlt k1 (fun j hj hb => by simp only [hb, if_true]; exact ⟨h3a, h31, h32⟩)).mono fun j hj => ?_
    by_cases hb : (onesOf m a g.s).testBit j = true
    · simp [hb, hb1 j hb]; exact sub.refl _
    · simp only [hb]
      by_cases hm' : m.testBit j = true
      · simp [hm']; exact (hL j hj hm').2.2
      · simp [hm']; exact sub.refl _
theorem live_go {l : List Cd} (hp : pv l = true) {D : Nat → Bool} (hD : ∀ p, D p = true → deadB l p = true) {n : Nat} (n8 : n ≤ 8) (b : Blk) :
    ∀ (d p m : Nat) (rest : List Cd) (L : Nat → Nat) (g h : GS), b.ok d → l.drop p = b.flat ++ rest → m < 2 ^ n → LR n L g h → (∀ k, k < n → m.testBit k = true → sub (liveFix l p) (L k)) →
    LR n (fun k => if m.testBit k then liveFix l (p + b.flat.length) else L k) (b.go m g) ((b.dropT D p).go m h) := by
  have hF := fix_is hp
  generalize hs : liveFix l = s at hF
  have one : ∀ {m : Nat} {a : Int} {g : GS} {j : Nat}, m < 2 ^ n → (onesOf m a g.s).testBit j = true → m.testBit j = true := fun {m a g j} hm hj => by
    rw [onesOf_bit _ _ _ _ (Nat.lt_of_lt_of_le hm (Nat.pow_le_pow_right (by decide) n8))] at hj
    simp only [Bool.and_eq_true] at hj
    exact hj.1
  have zero : ∀ {L : Nat → Nat} {g h : GS} {S : Nat}, LR n L g h → LR n (fun k => if (0 : Nat).testBit k then S else L k) g h := fun {L g h S} k => by simpa using k
  induction b with
  | nil =>
    intro d p m rest L g h _ _ _ k hL
    refine k.mono fun j hj => ?_
    split
    · rename_i hb; exact hL j hj hb
    · exact sub.refl _
  | op x r ih =>
    intro d p m rest L g h ⟨hv, ho1, ho, hr⟩ hd hm k hL
    obtain ⟨h1, h2, h3⟩ := drop_cons (r := r.flat ++ rest) hd
    by_cases hm0 : m = 0
    · subst hm0
      rw [go_zero, go_zero]
      exact zero k
    have hlo := live_op hF h1 ho
    have hrd := live_reads hF h1
    have k0 : LR n (fun j => if m.testBit j = true then s p else L j) g h := k.mono fun j hj => by
      split
      · rename_i hb; exact hL j hj hb
      · exact sub.refl _
    have fin : ∀ g' h', LR n (fun j => if m.testBit j = true then s (p + 1) else L j) g' h' → LR n (fun k => if m.testBit k then s (p + (Blk.op x r).flat.length) else L k) (r.go m g') ((r.dropT D (p + 1)).go m h') := fun g' h' kk => by
      refine (ih d (p + 1) m rest _ _ _ hr h2 hm kk (fun j hj hb => by simp [hb]; exact sub.refl _)).mono fun j hj => ?_
      simp only [Blk.flat, List.length_cons]
      rw [show p + (r.flat.length + 1) = p + 1 + r.flat.length by omega]
      by_cases hb : m.testBit j = true <;> simp [hb] <;> exact sub.refl _
    simp only [Blk.dropT]
    cases hDp : D p with
    | true =>
      simp only [if_true, Blk.go, hm0, if_false]
      obtain ⟨d1, d2, d3⟩ := dead_op (hD p hDp)
      rw [cdAt_get h1] at d1 d2 d3
      rw [hs] at d3
      have eo : outSet l s p = s (p + 1) := by simp [outSet, succs_op h1 ho]
      rw [eo] at d3
      have hsub : sub (s (p + 1)) (s p) := by
        refine fun i hi => hlo i ?_
        rw [testBit_mdiff, hi]
        unfold wset
        rw [hv, inR_iff.2 ⟨d1, d2⟩]
        simp only [Bool.and_self, if_true]
        by_cases e : i = x.a.toNat
        · rw [e, d3] at hi; cases hi
        · rw [Nat.testBit_two_pow_of_ne (fun h => e h.symm)]; rfl
      have k1 : LR n (fun j => if m.testBit j = true then s (p + 1) else L j) g h := k0.mono fun j hj => by
        by_cases hb : m.testBit j = true <;> simp [hb]
        · exact hsub
        · exact sub.refl _
      refine fin _ _ ?_
      have := (k1.q.deadM n8 hv ⟨d1, d2⟩ hm (fun j hj hb => by simp only [hb, if_true]; exact d3)).r (e := g.ev ++ [(x, m)]) (f := h.ev) (by
        rw [barr_snoc, k.br, show (x.op == 10) = false from beq_eq_false_iff_ne.2 (by omega)]; simp) (by have := k.el; simp; omega)
      exact this
    | false =>
      simp only [Blk.go, hm0, if_false, Bool.false_eq_true]
      refine fin _ _ ?_
      have := (k0.q.execM n8 hv ho (S := s p) (S' := s (p + 1)) hm (fun j hj hb => by simp [hb]) hrd hlo).r (e := g.ev ++ [(x, m)]) (f := h.ev ++ [(x, m)]) (by
        rw [barr_snoc, barr_snoc, k.br]) (by have := k.el; simp; omega)
      refine this.mono fun j hj => ?_
      by_cases hb : m.testBit j = true <;> simp [hb] <;> exact sub.refl _
  | iff a t r iht ihr =>
    intro d p m rest L g h ⟨ha, hd1, ht, hr⟩ hd hm k hL
    have h' : l.drop p = cIf a :: (t.flat ++ cEnd :: (r.flat ++ rest)) := by rw [hd]; simp [Blk.flat]
    obtain ⟨_, h2, h3⟩ := end_iff ht h'
    have hva : cvOk (cIf a) = true := by rw [cvOk_if]; exact inR_iff.2 ha
    obtain ⟨e1, e2, e3, e4⟩ := live_iff hF hva ht h'
    by_cases hm0 : m = 0
    · subst hm0
      rw [go_zero, go_zero]
      exact zero k
    have eo := k.ones n8 ha hm (fun j hj hb => hL j hj hb _ e3)
    simp only [Blk.dropT, Blk.go, hm0, if_false]
    rw [eo]
    have hlt := onesOf_lt hm n8 a g.s
    have k1 := iht _ (p + 1) _ _ L _ _ ht h2 hlt (k.on (cIf a) m) (fun j hj hb => e1.trans (hL j hj (one hm hb)))
    rw [show p + 1 + t.flat.length = p + t.flat.length + 1 by omega] at k1
    refine (ihr d (p + t.flat.length + 2) m rest _ _ _ hr h3 hm k1 (fun j hj hb => ?_)).mono fun j hj => ?_
    · split
      · exact e4
      · exact e2.trans (hL j hj hb)
    · simp only [Blk.flat, List.length_cons, List.length_append]
      rw [show p + (t.flat.length + (r.flat.length + 1) + 1) = p + t.flat.length + 2 + r.flat.length by omega]
      by_cases hb : m.testBit j = true
      · simp [hb]; exact sub.refl _
      · have : (onesOf m a g.s).testBit j = false := by
          cases hc : (onesOf m a g.s).testBit j with
          | false => rfl
          | true => exact absurd (one hm hc) hb
        simp [hb, this]; exact sub.refl _
  | ife a t e r iht ihe ihr =>
    intro d p m rest L g h ⟨ha, hd1, ht, he, hr⟩ hd hm k hL
    have h' : l.drop p = cIf a :: (t.flat ++ cElse :: (e.flat ++ cEnd :: (r.flat ++ rest))) := by rw [hd]; simp [Blk.flat]
    obtain ⟨_, h2, h3, h4⟩ := end_ife ht he h'
    have hva : cvOk (cIf a) = true := by rw [cvOk_if]; exact inR_iff.2 ha
    obtain ⟨e1, e2, e3, e4, e5⟩ := live_ife hF hva ht he h'
    by_cases hm0 : m = 0
    · subst hm0
      rw [go_zero, go_zero]
      exact zero k
    have eo := k.ones n8 ha hm (fun j hj hb => hL j hj hb _ e3)
    simp only [Blk.dropT, Blk.go, hm0, if_false]
    rw [eo]
    have hlt := onesOf_lt hm n8 a g.s
    have k1 := iht _ (p + 1) _ _ L _ _ ht h2 hlt (k.on (cIf a) m) (fun j hj hb => e1.trans (hL j hj (one hm hb)))
    rw [show p + 1 + t.flat.length = p + t.flat.length + 1 by omega] at k1
    have hmd : mdiff m (onesOf m a g.s) < 2 ^ n := mdiff_lt hm
    have k2 := ihe _ (p + t.flat.length + 2) _ _ _ _ _ he h3 hmd k1 (fun j hj hb => by
      rw [testBit_mdiff] at hb
      simp only [Bool.and_eq_true, Bool.not_eq_true'] at hb
      simp only [hb.2]
      exact e2.trans (hL j hj hb.1))
    rw [show p + t.flat.length + 2 + e.flat.length = p + t.flat.length + e.flat.length + 2 by omega] at k2
    refine (ihr d (p + t.flat.length + e.flat.length + 3) m rest _ _ _ hr h4 hm k2 (fun j hj hb => ?_)).mono fun j hj => ?_
    · rw [testBit_mdiff, hb]
      cases hc : (onesOf m a g.s).testBit j with
      | true => simp; exact e4
      | false => simp; exact e5
    · simp only [Blk.flat, List.length_cons, List.length_append]
      rw [show p + (t.flat.length + (e.flat.length + (r.flat.length + 1) + 1) + 1) = p + t.flat.length + e.flat.length + 3 + r.flat.length by omega]
      by_cases hb : m.testBit j = true
      · simp [hb]; exact sub.refl _
      · have : (onesOf m a g.s).testBit j = false := by
          cases hc : (onesOf m a g.s).testBit j with
          | false => rfl
          | true => exact absurd (one hm hc) hb
        simp [hb, this, testBit_mdiff]; exact sub.refl _
  | loop a c t r iht ihr =>
    intro d p m rest L g h ⟨ha, hc, hd1, ht, hr⟩ hd hm k hL
    have h' : l.drop p = cLoop a c :: (t.flat ++ cEnd :: (r.flat ++ rest)) := by rw [hd]; simp [Blk.flat]
    obtain ⟨_, h2, h3⟩ := end_iff ht h'
    have hva : cvOk (cLoop a c) = true := by rw [cvOk_loop, inR_iff.2 ha, inR_iff.2 hc]; rfl
    obtain ⟨e1, e2, e3, e4, e5, e6⟩ := live_loop hF hp hva ht h'
    by_cases hm0 : m = 0
    · subst hm0
      rw [go_zero, go_zero]
      exact zero k
    simp only [Blk.dropT, Blk.go, hm0, if_false]
    have k1 := LRturns n8 (f := fun m g => t.go m g) (f' := fun m g => (t.dropT D (p + 1)).go m g) ha (S1 := s (p + 1)) (S2 := s (p + t.flat.length + 2)) (S3 := s (p + t.flat.length + 1)) e4 e5 e6
      (fun m L g h hm k hL => by
        have := iht _ (p + 1) m _ L g h ht h2 hm k hL
        rwa [show p + 1 + t.flat.length = p + t.flat.length + 1 by omega] at this) c.toNat m L _ _ hm (k.on (cLoop a c) m) (fun j hj hb => ⟨hL j hj hb _ e3, e1.trans (hL j hj hb), e2.trans (hL j hj hb)⟩)
    refine (ihr d (p + t.flat.length + 2) m rest _ _ _ hr h3 hm k1 (fun j hj hb => by simp [hb]; exact sub.refl _)).mono fun j hj => ?_
    simp only [Blk.flat, List.length_cons, List.length_append]
    rw [show p + (t.flat.length + (r.flat.length + 1) + 1) = p + t.flat.length + 2 + r.flat.length by omega]
    by_cases hb : m.testBit j = true <;> simp [hb] <;> exact sub.refl _

/-! ### Dropping in a list -/
def keepF (D : Nat → Bool) : Nat → List Cd → List Cd
  | _, [] => []
  | p, x :: l => if D p then keepF D (p + 1) l else x :: keepF D (p + 1) l
theorem keepF_app (D : Nat → Bool) : ∀ (a b : List Cd) (p : Nat), keepF D p (a ++ b) = keepF D p a ++ keepF D (p + a.length) b
  | [], b, p => by simp [keepF]
  | x :: a, b, p => by
    simp only [keepF, List.cons_append, List.length_cons, keepF_app D a b (p + 1)]
    rw [show p + (a.length + 1) = p + 1 + a.length by omega]
    split <;> rfl
theorem keepF_len (D : Nat → Bool) : ∀ (a : List Cd) (p : Nat), (keepF D p a).length ≤ a.length
  | [], _ => Nat.le_refl _
  | x :: a, p => by
    simp only [keepF]
    have := keepF_len D a (p + 1)
    split <;> simp <;> omega
theorem keepN_eq (l : List Cd) : ∀ n, n ≤ l.length → keepN l n = keepF (deadB l) 0 (l.take n)
  | 0, _ => by simp [keepN, keepF]
  | n + 1, h => by
    have hl : (l.take n).length = n := by simp [List.length_take]; omega
    rw [keepN_succ, keepN_eq l n (by omega), List.take_succ_eq_append_getElem (by omega), keepF_app, hl, Nat.zero_add]
    have hx : cdAt l n = l[n] := by unfold cdAt; rw [List.getElem?_eq_getElem (by omega)]
    simp only [keepF, hx]
theorem keepN_all (l : List Cd) : keepN l l.length = keepF (deadB l) 0 l := by
  rw [keepN_eq l _ (Nat.le_refl _), List.take_length]
theorem notDead {l : List Cd} {D : Nat → Bool} (hD : ∀ p, D p = true → deadB l p = true) {p : Nat} {x : Cd} (hx : l[p]? = some x) (h : 8 < x.op) : D p = false := by
  cases h1 : D p with
  | false => rfl
  | true =>
    have := dead_op (hD p h1)
    rw [cdAt_get hx] at this
    omega
theorem dropT_flat {l : List Cd} {D : Nat → Bool} (hD : ∀ p, D p = true → deadB l p = true) (b : Blk) : ∀ (d p : Nat) (rest : List Cd), b.ok d → l.drop p = b.flat ++ rest → (b.dropT D p).flat = keepF D p b.flat := by
  induction b with
  | nil => intro d p rest _ _; rfl
  | op x r ih =>
    intro d p rest ⟨_, _, _, hr⟩ hd
    obtain ⟨_, h2, _⟩ := drop_cons (r := r.flat ++ rest) hd
    have := ih d (p + 1) rest hr h2
    simp only [Blk.dropT, Blk.flat, keepF]
    split
    · exact this
    · simp only [Blk.flat, this]
  | iff a t r iht ihr =>
    intro d p rest ⟨ha, hd1, ht, hr⟩ hd
    have h' : l.drop p = cIf a :: (t.flat ++ cEnd :: (r.flat ++ rest)) := by rw [hd]; simp [Blk.flat]
    obtain ⟨h0, h2, _⟩ := drop_cons h'
    obtain ⟨_, _, h3⟩ := end_iff ht h'
    have hend := (drop_cons (drop_skip h2)).1
    have k1 := iht _ (p + 1) _ ht h2
    have k2 := ihr d (p + t.flat.length + 2) rest hr h3
    simp only [Blk.dropT, Blk.flat, keepF, notDead hD h0 (show 8 < (cIf a).op by simp [cIf]), keepF_app, k1, Bool.false_eq_true, if_false]
    rw [notDead hD (x := cEnd) (p := p + 1 + t.flat.length) hend (by simp [cEnd]), k2]
    simp only [Bool.false_eq_true, if_false]
    rw [show p + 1 + t.flat.length + 1 = p + t.flat.length + 2 by omega]
  | ife a t e r iht ihe ihr =>
    intro d p rest ⟨ha, hd1, ht, he, hr⟩ hd
    have h' : l.drop p = cIf a :: (t.flat ++ cElse :: (e.flat ++ cEnd :: (r.flat ++ rest))) := by rw [hd]; simp [Blk.flat]
    obtain ⟨h0, h2, _⟩ := drop_cons h'
    obtain ⟨_, _, h3, h4⟩ := end_ife ht he h'
    have hels := (drop_cons (drop_skip h2)).1
    have hend := (drop_cons (drop_skip h3)).1
    have k1 := iht _ (p + 1) _ ht h2
    have k2 := ihe _ (p + t.flat.length + 2) _ he h3
    have k3 := ihr d (p + t.flat.length + e.flat.length + 3) rest hr h4
    simp only [Blk.dropT, Blk.flat, keepF, notDead hD h0 (show 8 < (cIf a).op by simp [cIf]), keepF_app, k1, Bool.false_eq_true, if_false]
    rw [notDead hD (x := cElse) (p := p + 1 + t.flat.length) hels (by simp [cElse]), k2, k3]
    simp only [Bool.false_eq_true, if_false]
    rw [show p + 1 + t.flat.length + 1 = p + t.flat.length + 2 by omega, notDead hD (x := cEnd) (p := p + t.flat.length + 2 + e.flat.length) hend (by simp [cEnd])]
    simp only [Bool.false_eq_true, if_false]
    rw [show p + t.flat.length + 2 + e.flat.length + 1 = p + t.flat.length + e.flat.length + 3 by omega]
  | loop a c t r iht ihr =>
    intro d p rest ⟨ha, hc, hd1, ht, hr⟩ hd
    have h' : l.drop p = cLoop a c :: (t.flat ++ cEnd :: (r.flat ++ rest)) := by rw [hd]; simp [Blk.flat]
    obtain ⟨h0, h2, _⟩ := drop_cons h'
    obtain ⟨_, _, h3⟩ := end_iff ht h'
    have hend := (drop_cons (drop_skip h2)).1
    have k1 := iht _ (p + 1) _ ht h2
    have k2 := ihr d (p + t.flat.length + 2) rest hr h3
    simp only [Blk.dropT, Blk.flat, keepF, notDead hD h0 (show 8 < (cLoop a c).op by simp [cLoop]), keepF_app, k1, Bool.false_eq_true, if_false]
    rw [notDead hD (x := cEnd) (p := p + 1 + t.flat.length) hend (by simp [cEnd]), k2]
    simp only [Bool.false_eq_true, if_false]
    rw [show p + 1 + t.flat.length + 1 = p + t.flat.length + 2 by omega]

/-! ### Runs -/
/-- The second program leads to the same memory, with the same writes, in no more steps. -/
structure Less (n : Nat) (m : List Int) (l l' : List Cd) : Prop where
  ok : pv l' = true
  mem : (lockS l' n m).mem = (lockS l n m).mem
  spl : splitB l' n (lockS l' n m).beats = splitB l n (lockS l n m).beats
  wr : (lockS l' n m).accs.filter (fun q => q.wr) = (lockS l n m).accs.filter (fun q => q.wr)
  al : (lockS l' n m).accs.Sublist (lockS l n m).accs
  bl : (lockS l' n m).beats.length ≤ (lockS l n m).beats.length
  len : l'.length ≤ l.length
theorem Less.refl {n : Nat} {m : List Int} {l : List Cd} (h : pv l = true) : Less n m l l := ⟨h, rfl, rfl, rfl, List.Sublist.refl _, Nat.le_refl _, Nat.le_refl _⟩
theorem Less.trans {n : Nat} {m : List Int} {l l' l'' : List Cd} (h : Less n m l l') (k : Less n m l' l'') : Less n m l l'' :=
  ⟨k.ok, k.mem.trans h.mem, k.spl.trans h.spl, k.wr.trans h.wr, k.al.trans h.al, Nat.le_trans k.bl h.bl, Nat.le_trans k.len h.len⟩
theorem ev_len (l : List Cd) (bs : List (Nat × Nat)) : (evOf l bs).length = bs.length := by simp [evOf]
theorem less_of {l l' : List Cd} (h : pv l = true) (h' : pv l' = true) {n : Nat} (hn : 1 ≤ n ∧ n ≤ 8) {m : List Int} (hm : memOk m = true) (hlen : l'.length ≤ l.length)
    (km : (goS l' n m).s.mem = (goS l n m).s.mem) (kw : (goS l' n m).s.accs.filter (fun q => q.wr) = (goS l n m).s.accs.filter (fun q => q.wr)) (ka : (goS l' n m).s.accs.Sublist (goS l n m).s.accs)
    (kb : barr (goS l' n m).ev = barr (goS l n m).ev) (ke : (goS l' n m).ev.length ≤ (goS l n m).ev.length) : Less n m l l' := by
  rw [goS_eq h, goS_eq h'] at km kw ka kb ke
  have kin : ∀ {l : List Cd}, pv l = true → ∀ q ∈ (lockS l n m).beats, q.1 < l.length := by
    intro l h q hq
    have hok : lockOk l n m = true := by
      have : inR (n : Int) 1 8 = true := inR_iff.2 (by omega)
      simp [lockOk, h, hm, this]
    have := trace_in (l := l) (n := n) (m := m) q (by unfold traceOf; rw [if_pos hok]; simpa using hq)
    exact this.1
  refine ⟨h', km, ?_, kw, ka, ?_, hlen⟩
  · rw [splitB_ev _ _ _ (kin h), splitB_ev _ _ _ (kin h')]
    show (barr (GS.of l' (lockS l' n m)).ev).any _ = (barr (GS.of l (lockS l n m)).ev).any _
    rw [kb]
  · have : (evOf l' (lockS l' n m).beats).length ≤ (evOf l (lockS l n m).beats).length := ke
    rwa [ev_len, ev_len] at this
theorem keep_less {l : List Cd} (h : pv l = true) {D : Nat → Bool} (hD : ∀ p, D p = true → deadB l p = true) {n : Nat} (hn : 1 ≤ n ∧ n ≤ 8) {m : List Int} (hm : memOk m = true) : Less n m l (keepF D 0 l) := by
  obtain ⟨h1, h2⟩ := treeOf_spec h
  have e : (treeOf l).flat = l := h2
  have hfl := dropT_flat hD (treeOf l) 3 0 [] h1 (by simp [h2])
  rw [h2] at hfl
  have hk := dropT_ok D (treeOf l) 3 0 h1
  have hlen := keepF_len D l 0
  have h' : pv (keepF D 0 l) = true := pv_tree.2 ⟨by have := (pv_iff.1 h).1; omega, _, hk, hfl⟩
  have hmm : 2 ^ n - 1 < 2 ^ n := by have : 0 < 2 ^ n := Nat.pow_pos (by decide); omega
  have hst : LR n (fun _ => liveFix l 0) ⟨LS.start n m, []⟩ ⟨LS.start n m, []⟩ := by
    have e : (LS.start n m).regs.length = n := by simp [LS.start]
    refine ⟨e, e, fun k hk => ?_, rfl, rfl, rfl, List.Sublist.refl _, rfl, Nat.le_refl _⟩
    have e4 : ((LS.start n m).regs.getD k []).length = 4 := by simp [LS.start, List.getD_eq_getElem?_getD, hk]
    exact ⟨e4, e4, fun _ _ _ _ => rfl⟩
  have R := live_go h hD hn.2 (treeOf l) 3 0 (2 ^ n - 1) [] _ _ _ h1 (by simp [h2]) hmm hst (fun _ _ _ => sub.refl _)
  rw [← goS_tree' hk hfl h' n m] at R
  have e0 : (treeOf l).go (2 ^ n - 1) ⟨LS.start n m, []⟩ = goS l n m := rfl
  rw [e0] at R
  exact less_of h h' hn hm hlen R.mem R.wr R.al R.br R.el
theorem same_less {l l' : List Cd} (h : pv l = true) (h' : pv l' = true) {n : Nat} (hn : 1 ≤ n ∧ n ≤ 8) {m : List Int} (hm : memOk m = true) (hlen : l'.length ≤ l.length) (k : SameB (goS l n m) (goS l' n m)) (ke : (goS l' n m).ev.length ≤ (goS l n m).ev.length) : Less n m l l' :=
  less_of h h' hn hm hlen (by rw [k.1]) (by rw [k.1]) (by rw [k.1]; exact List.Sublist.refl _) k.2.symm ke
theorem dropF_less {n : Nat} (hn : 1 ≤ n ∧ n ≤ 8) {m : List Int} (hm : memOk m = true) : ∀ (k : Nat) (l : List Cd), pv l = true → Less n m l (dropF k l)
  | 0, l, h => Less.refl h
  | k + 1, l, h => by
    unfold dropF
    split
    · exact Less.refl h
    · have e := keep_less h (D := deadB l) (fun _ h => h) hn hm
      rw [← keepN_all] at e
      exact e.trans (dropF_less hn hm k _ (keep_ok h))
theorem dropDead_less {l : List Cd} (h : pv l = true) {n : Nat} (hn : 1 ≤ n ∧ n ≤ 8) {m : List Int} (hm : memOk m = true) : Less n m l (dropDeadL l) := by
  unfold dropDeadL
  rw [if_pos h]
  exact dropF_less hn hm _ _ h
/-! ### What stays -/


def SE (g h : GS) : Prop := SameB g h ∧ h.ev.length ≤ g.ev.length
theorem SE.on {g h : GS} (k : SE g h) (x y : Cd) (m : Nat) (hx : x.op ≠ 10) (hy : y.op ≠ 10) : SE (g.on x m) (h.on y m) :=
  ⟨k.1.on x y m hx hy, by have := k.2; simp only [GS.on, List.length_append, List.length_singleton]; omega⟩
theorem SE.turns {f f' : Nat → GS → GS} (hf : ∀ m g h, m < 2 ^ 8 → SE g h → SE (f m g) (f' m h)) (a : Int) : ∀ (b m : Nat) (g h : GS), m < 2 ^ 8 → SE g h → SE (turnsG f a b m g) (turnsG f' a b m h)
  | 0, _, _, _, _, k => k
  | b + 1, m, g, h, hm, k => by
    simp only [turnsG]
    rw [← k.1.1]
    have hlt := onesOf_lt (n := 8) hm (by omega) a g.s
    exact SE.turns hf a b _ _ _ hlt (hf _ _ _ hlt k)
theorem picks_se (b : Blk) : ∀ (d m : Nat) (g h : GS), b.ok d → m < 2 ^ 8 → SE g h → SE (b.go m g) (b.picks.go m h) := by
  induction b with
  | nil => intro d m g h _ _ k; exact k
  | op x r ih =>
    intro d m g h ⟨_, _, _, hr⟩ hm k
    simp only [Blk.picks, Blk.go]
    split
    · exact k
    · refine ih d _ _ _ hr hm ⟨⟨by rw [k.1.1], ?_⟩, ?_⟩
      · have := k.1.2
        simp only [barr] at this
        simp only [barr, List.filter_append, this]
      · have := k.2
        simp only [List.length_append, List.length_singleton]; omega
  | iff a t r iht ihr =>
    intro d m g h ⟨_, _, ht, hr⟩ hm k
    simp only [Blk.picks]
    split
    · rename_i y hy
      obtain ⟨rfl, h5⟩ := mvOf_some hy
      simp only [Blk.go]
      split
      · exact k
      · refine ihr d _ _ _ hr hm ?_
        rw [pick_exec h5 a hm, ← k.1.1]
        split
        · rename_i h0
          rw [h0, execM_zero (by omega)]
          have := k.1.on (cIf a) ⟨7, y.a, y.b, a⟩ m (by simp [cIf]) (by simp)
          refine ⟨⟨this.1.trans k.1.1.symm ▸ rfl, this.2⟩, ?_⟩
          have := k.2
          simp only [GS.on, List.length_append, List.length_singleton]; omega
        · have := k.1.on (cIf a) ⟨7, y.a, y.b, a⟩ m (by simp [cIf]) (by simp)
          refine ⟨⟨rfl, ?_⟩, ?_⟩
          · have e5 : (y.op == 10) = false := by rw [h5]; rfl
            have e7 := this.2
            simp only [GS.on] at e7
            simp only [GS.on, barr, List.filter_append, List.filter_cons, e5] at e7 ⊢
            simpa [barr] using e7
          · have := k.2
            simp only [GS.on, List.length_append, List.length_singleton]; omega
    · simp only [Blk.go]
      split
      · exact k
      · refine ihr d _ _ _ hr hm ?_
        rw [← k.1.1]
        exact iht _ _ _ _ ht (onesOf_lt hm (by omega) a g.s) (k.on _ _ _ (by simp [cIf]) (by simp [cIf]))
  | ife a t e r iht ihe ihr =>
    intro d m g h ⟨_, _, ht, he, hr⟩ hm k
    simp only [Blk.picks, Blk.go]
    split
    · exact k
    · refine ihr d _ _ _ hr hm ?_
      rw [← k.1.1]
      exact ihe _ _ _ _ he (mdiff_lt hm) (iht _ _ _ _ ht (onesOf_lt hm (by omega) a g.s) (k.on _ _ _ (by simp [cIf]) (by simp [cIf])))
  | loop a c t r iht ihr =>
    intro d m g h ⟨_, _, _, ht, hr⟩ hm k
    simp only [Blk.picks, Blk.go]
    split
    · exact k
    · refine ihr d _ _ _ hr hm ?_
      exact SE.turns (f := fun m g => t.go m g) (f' := fun m g => t.picks.go m g) (fun m g h hm k => iht _ _ _ _ ht hm k) a _ _ _ _ hm (k.on _ _ _ (by simp [cLoop]) (by simp [cLoop]))
theorem picks_len {l : List Cd} (h : pv l = true) : (picked l).length ≤ l.length := by
  have := picked_length l
  omega
theorem picks_less {l : List Cd} (h : pv l = true) {n : Nat} (hn : 1 ≤ n ∧ n ≤ 8) {m : List Int} (hm : memOk m = true) : Less n m l (picked l) := by
  obtain ⟨h1, h2⟩ := treeOf_spec h
  obtain ⟨h3, h4, h5⟩ := tree_picked h
  have hk : SE (goS l n m) (goS (picked l) n m) := by
    rw [goS_tree h3 h4 h5]
    exact picks_se _ 3 _ _ _ h1 (mask_lt hn.2) ⟨⟨rfl, rfl⟩, Nat.le_refl _⟩
  exact same_less h h5 hn hm (picks_len h) hk.1 hk.2
theorem pack_less {l : List Cd} (h : pv l = true) {n : Nat} (hn : n ≤ 8) {m : List Int} : Less n m l (packL l) := by
  obtain ⟨h1, h2, h3, h4⟩ := packL_run h hn m
  exact ⟨packL_ok h, h1, by rw [h2, h4], by rw [h3], by rw [h3]; exact List.Sublist.refl _, by rw [h2]; exact Nat.le_refl _, by have := packL_len l; omega⟩
theorem opt_less {l : List Cd} (h : pv l = true) {n : Nat} (hn : 1 ≤ n ∧ n ≤ 8) {m : List Int} (hm : memOk m = true) : Less n m l (packL (dropDeadL (picked l))) := by
  have k1 := picks_less h hn hm
  have k2 := dropDead_less k1.ok hn hm
  exact (k1.trans k2).trans (pack_less k2.ok hn.2)


set_option maxRecDepth 100000 in
set_option maxHeartbeats 4000000 in
theorem sclash_c (aw ac bw bc ap bp : Int) (ar br : Bool) (w : World) :
    Calls Tryz.prog 136 #[.agg #[.int .i64 aw, .int .i64 ac, .bool ar, .int .i64 ap], .agg #[.int .i64 bw, .int .i64 bc, .bool br, .int .i64 bp]] w fun e w' => e = .returned (.bool (clashI aw ac bw bc ap bp ar br)) ∧ Below w.heap.size w w' := by
  have HC := Lib.hid (show clashI aw ac bw bc ap bp ar br = ((ap == bp) && (aw != bw) && (ac == bc) && (ar || br)) from rfl)
  obtain ⟨x1, h1⟩ : ∃ x, (ap == bp) = x := ⟨_, rfl⟩
  obtain ⟨x2, h2⟩ : ∃ x, (aw != bw) = x := ⟨_, rfl⟩
  obtain ⟨x3, h3⟩ : ∃ x, (ac == bc) = x := ⟨_, rfl⟩
  rw [h1, h2, h3] at HC
  have hbw : Below w.heap.size w ((w.alloc (.cells #[.int .i64 aw, .int .i64 ac, .bool ar, .int .i64 ap] 130)).alloc (.cells #[.int .i64 bw, .int .i64 bc, .bool br, .int .i64 bp] 130)) := (by repeat (first | exact Below.refl _ _ | assumption | refine Below.alloc ?_ (by simp <;> omega) _ | refine Below.setCell ?_ (by simp <;> omega) _ | refine Below.drew ?_))
  cases x1 <;> cases x2 <;> cases x3 <;> cases ar <;> (
    go_enter Tryz.func136, Tryz.ntmps136
    go_wp2
    go_ret
    exact ⟨by rw [HC.out]; rfl, hbw⟩)

set_option maxRecDepth 100000 in
set_option maxHeartbeats 4000000 in
theorem sFirstRace_c (A : Option Addr) (c : Nat) (l : List Acc) (w : World) (hA : RdQ w w.heap.size A l) (hl : l.length ≤ 1000000000) :
    Calls Tryz.prog 112 #[.slice A l.length c] w fun e w' => ∃ i k : Int, e = .returned (.tuple #[.int .i64 i, .int .i64 k, .bool (raceB l)]) ∧ Below w.heap.size w w' := by
  go_enter Tryz.func112, Tryz.ntmps112
  go_wp2
  go_loopw [5] (fun kv wr => ∃ k : Nat, k ≤ l.length ∧ kv = .int .i64 k ∧ Below w.heap.size w wr ∧ Hid (∀ j i, j < k → i < j → ¬ clashAt l i j)) (fun kv _ => l.length - (intOf kv).toNat)
  case atStart => exact ⟨0, Nat.zero_le _, rfl, Below.refl _ _, Lib.hid (fun j i h => by omega)⟩
  case round =>
    obtain ⟨k, hk, rfl, hb, hno⟩ := hrel
    by_cases hlt : k < l.length
    · obtain ⟨b, off, x, rfl, hbB, hx, -, -, -, -⟩ := (hA.below hb).at_ hlt
      have hkI : (k : Int) < (l.length : Int) := by omega
      have HX := Lib.hid hx
      clear hx
      go_wp2
      obtain ⟨w0, hw0⟩ : ∃ z, z = wr := ⟨wr, rfl⟩
      subst hw0
      go_loopw [6] (fun iv wi => ∃ i : Nat, i ≤ k ∧ iv = .int .i64 i ∧ Below w0.heap.size w0 wi ∧ Hid (∀ j, j < i → ¬ clashAt l j k)) (fun iv _ => k - (intOf iv).toNat)
      case atStart => exact ⟨0, Nat.zero_le _, rfl, Below.refl _ _, Lib.hid (fun j h => by omega)⟩
      case round =>
        obtain ⟨i, hi, rfl, hbi, hni⟩ := hrel
        have hbi2 := below_trans hb (Nat.le_refl _) hbi
        by_cases hik : i < k
        · have hil : i < l.length := by omega
          have hy : l[i]? = some (l[i]) := List.getElem?_eq_getElem hil
          generalize l[i] = y at hy
          obtain ⟨-, e0, e1, e2, e3⟩ := (hA.below hbi2).sub hy rfl
          obtain ⟨-, d0, d1, d2, d3⟩ := (hA.below hbi2).sub HX.out rfl
          have hikI : (i : Int) < (k : Int) := by omega
          have HY := Lib.hid hy
          have HCL := Lib.hid (show clashI y.who y.cell x.who x.cell y.ph x.ph y.wr x.wr = clashA y x from rfl)
          clear hy
          go_wp2_with fail
          go_still_tail 8, (by kernel_rfl)
          go_wp2_with fail
          refine (sclash_c y.who y.cell x.who x.cell y.ph x.ph y.wr x.wr _).mono ?_
          rintro e w5 ⟨rfl, hb5⟩
          rw [HCL.out]
          have hb7 := below_trans hbi.drew (Nat.le_refl _) hb5
          cases hcl : clashA y x with
          | true =>
            have HR := Lib.hid (race_yes hik HY.out HX.out hcl)
            clear hcl
            go_wp2
            go_ret3
            rw [HR.out]
            exact ⟨_, _, rfl, below_trans hb (Nat.le_refl _) hb7⟩
          | false =>
            have HN := Lib.hid (show ∀ j, j < i + 1 → ¬ clashAt l j k from fun j hj => by
              by_cases e : j = i
              · subst e
                rintro ⟨a, b, ha, hb, hh⟩
                rw [HY.out] at ha
                rw [HX.out] at hb
                injection ha with ha
                injection hb with hb
                subst ha hb
                rw [hcl] at hh
                cases hh
              · exact hni.out j (by omega))
            clear hcl
            go_wp2
            go_roundw
            case rel => exact ⟨i + 1, by omega, by go_num, hb7, HN⟩
            case measure => simp [intOf]; omega
        · obtain rfl : i = k := by omega
          go_wp2
          go_roundw
          case rel => exact ⟨i + 1, by omega, by go_num, hbi2, Lib.hid (fun j i' hj hi' => by
            by_cases e : j = i
            · subst e; exact hni.out i' hi'
            · exact hno.out j i' (by omega) hi')⟩
          case measure => simp [intOf]; omega
    · obtain rfl : k = l.length := by omega
      have HR := Lib.hid (race_no (fun k i h1 h2 => hno.out k i h1 h2))
      go_wp2
      go_ret3
      rw [HR.out]
      exact ⟨_, _, rfl, hb⟩

theorem accsOf_len' (l : List Cd) (n : Int) (m : List Int) : (accsOf l n m).length ≤ 20480 := by
  unfold accsOf
  split
  · rename_i h
    exact lockAccs_len h
  · simp

set_option maxRecDepth 100000 in
set_option maxHeartbeats 4000000 in
theorem sRaceFree_c (A Am : Option Addr) (ca cm : Nat) (l : List Cd) (n : Int) (m : List Int) (w : World) (hA : RdC w w.heap.size A l) (hM : RdI w w.heap.size Am m) (hl : l.length ≤ 1000000000) (hml : m.length ≤ 1000000000) :
    Calls Tryz.prog 75 #[.slice A l.length ca, .int .i64 n, .slice Am m.length cm] w fun e w' => e = .returned (.bool (lockOk l n m && !raceB (accsOf l n m))) ∧ Below w.heap.size w w' := by
  have hal := accsOf_len' l n m
  have HSA := Lib.hid (fun W a b => sLockAccesses_c A Am ca cm l n m W a b hl hml)
  have HOK := Lib.hid (fun W a b => sl8Ok_c A Am ca cm l n m W a b hl hml)
  generalize accsOf l n m = qs at *
  generalize lockOk l n m = ok at *
  have HFR := Lib.hid (fun U uc W h h2 => sFirstRace_c U uc qs W h h2)
  generalize raceB qs = rb at *
  go_enter Tryz.func75, Tryz.ntmps75
  go_wp2_with fail
  refine (HOK.out w hA hM).mono ?_
  rintro e w1 ⟨rfl, hb1⟩
  cases ok with
  | false =>
    go_wp2
    go_ret
    exact ⟨rfl, hb1⟩
  | true =>
    go_wp2_with fail
    refine (HSA.out w1 ((hA.below hb1).more hb1.size) ((hM.below hb1).more hb1.size)).mono ?_
    rintro e w2 ⟨U, uc, rfl, hq, hb2⟩
    have hb3 := below_trans hb1 (Nat.le_refl _) hb2
    go_wp2_with fail
    refine (HFR.out U uc w2 hq (by omega)).mono ?_
    rintro e w3 ⟨i, k, rfl, hb4⟩
    have hb5 := below_trans hb3 (Nat.le_refl _) hb4
    go_wp2
    go_ret
    exact ⟨rfl, hb5⟩

set_option maxRecDepth 100000 in
set_option maxHeartbeats 4000000 in
theorem sReason_c (A Am : Option Addr) (ca cm : Nat) (l : List Cd) (n : Int) (m : List Int) (w : World) (hA : RdC w w.heap.size A l) (hM : RdI w w.heap.size Am m) (hl : l.length ≤ 1000000000) (hml : m.length ≤ 1000000000) :
    Calls Tryz.prog 43 #[.slice A l.length ca, .int .i64 n, .slice Am m.length cm] w fun e w' => e = .returned (.int .i64 (reasonOf l n m)) ∧ Below w.heap.size w w' := by
  have HR := Lib.hid (show reasonOf l n m = if lockOk l n m then (if !wholeOf l n m then 2 else if raceB (accsOf l n m) then 3 else 0) else 1 by
    unfold reasonOf wholeOf
    cases lockOk l n m with
    | false => rfl
    | true => simp)
  have HF := Lib.hid (fun W a b => sRaceFree_c A Am ca cm l n m W a b hl hml)
  have HO := Lib.hid (fun W a b => sl8Ok_c A Am ca cm l n m W a b hl hml)
  have HRO := Lib.hid (fun W a b => sRunLockO_c A Am ca cm l n m W a b hl hml)
  generalize wholeOf l n m = wh at *
  generalize lockOk l n m = ok at *
  generalize raceB (accsOf l n m) = rb at *
  generalize reasonOf l n m = rs at *
  go_enter Tryz.func43, Tryz.ntmps43
  go_wp2_with fail
  refine (HRO.out w hA hM).mono ?_
  rintro e w1 ⟨M, c, rfl, -, hb1⟩
  go_wp2_with fail
  refine (HO.out w1 ((hA.below hb1).more hb1.size) ((hM.below hb1).more hb1.size)).mono ?_
  rintro e w2 ⟨rfl, hb2⟩
  replace hb2 := below_trans hb1 (Nat.le_refl _) hb2
  cases ok with
  | false =>
    go_wp2
    go_ret
    exact ⟨reti (by rw [HR.out]; rfl), hb2⟩
  | true =>
    cases wh with
    | false =>
      go_wp2
      go_ret
      exact ⟨reti (by rw [HR.out]; rfl), hb2⟩
    | true =>
      go_wp2_with fail
      refine (HF.out w2 ((hA.below hb2).more hb2.size) ((hM.below hb2).more hb2.size)).mono ?_
      rintro e w3 ⟨rfl, hb3⟩
      replace hb3 := below_trans hb2 (Nat.le_refl _) hb3
      cases rb with
      | true =>
        go_wp2
        go_ret
        exact ⟨reti (by rw [HR.out]; rfl), hb3⟩
      | false =>
        go_wp2
        go_ret
        exact ⟨reti (by rw [HR.out]; rfl), hb3⟩

noncomputable def launchM (l : List Cd) (n : Int) (m : List Int) : List Int := if reasonOf l n m = 0 then runOf (optL l) n m else if reasonOf l n m = 1 then [] else m
theorem launchM_len (l : List Cd) (n : Int) (m : List Int) : (launchM l n m).length ≤ 32 + m.length := by
  unfold launchM
  split
  · have := runOf_len (optL l) n m; omega
  · split
    · simp
    · omega
theorem reason_cases (l : List Cd) (n : Int) (m : List Int) : (reasonOf l n m = 1 ∧ lockOk l n m = false) ∨ (lockOk l n m = true ∧ 1 ≤ m.length ∧ m.length ≤ 32 ∧ (reasonOf l n m = 0 ∨ reasonOf l n m = 2 ∨ reasonOf l n m = 3)) := by
  cases h : lockOk l n m with
  | false => exact .inl ⟨by simp [reasonOf, h], rfl⟩
  | true =>
    have h' := h
    simp only [lockOk, Bool.and_eq_true] at h'
    obtain ⟨h0, h1, h2⟩ := memOk_iff.1 h'.2.2
    refine .inr ⟨rfl, h1, h2, ?_⟩
    simp only [reasonOf, h, if_true]
    split
    · exact .inr (.inl rfl)
    · split
      · exact .inr (.inr rfl)
      · exact .inl rfl

def LaP (w : World) (l : List Cd) (n : Int) (m : List Int) (e : Ending) (w' : World) : Prop :=
  ∃ (M : Option Addr) (c : Nat), e = .returned (.tuple #[.slice M (launchM l n m).length c, .int .i64 (reasonOf l n m)]) ∧ OwI w' w.heap.size M (launchM l n m).length c (launchM l n m) ∧ Below w.heap.size w w'

set_option maxRecDepth 100000 in
set_option maxHeartbeats 4000000 in
theorem iLaunch_c (A Am : Option Addr) (ca cm : Nat) (l : List Cd) (n : Int) (m : List Int) (w : World) (hA : RdC w w.heap.size A l) (hM : RdI w w.heap.size Am m) (hl : l.length ≤ 1000000000) (hml : m.length ≤ 1000000000) :
    Calls Tryz.prog 13 #[.slice A l.length ca, .int .i64 n, .slice Am m.length cm] w (LaP w l n m) := by
  have hol := optL_len l
  have HRC := Lib.hid (reason_cases l n m)
  have HLM := Lib.hid (show launchM l n m = if reasonOf l n m = 0 then runOf (optL l) n m else if reasonOf l n m = 1 then [] else m from rfl)
  have HRS := Lib.hid (fun W a b => reason_c A Am ca cm l n m W a b hl hml)
  unfold LaP
  generalize launchM l n m = V at *
  generalize reasonOf l n m = rs at *
  go_enter Tryz.func13, Tryz.ntmps13
  go_wp2_with fail
  refine (HRS.out w hA hM).mono ?_
  rintro e w1 ⟨rfl, hb1⟩
  replace hA := (hA.below hb1).more hb1.size
  replace hM := (hM.below hb1).more hb1.size
  have HO := Lib.hid (fun W a => iOptimize_c A ca l W a hl)
  rcases HRC.out with ⟨rfl, -⟩ | ⟨-, hm1, hm32, rfl | rfl | rfl⟩
  · have hV : V = [] := HLM.out
    subst hV
    clear HLM HRC
    go_wp2
    go_ret2
    exact ⟨none, 0, rfl, .inl ⟨rfl, rfl⟩, hb1⟩
  · have hV : V = runOf (optL l) n m := HLM.out
    subst hV
    clear HLM HRC
    go_wp2_with fail
    refine (HO.out w1 hA).mono ?_
    rintro e w2 ⟨A2, c2, rfl, o2, hb2⟩
    have r2 := OwC.rd o2
    replace hM := (hM.below hb2).more hb2.size
    replace hb2 := below_trans hb1 (Nat.le_refl _) hb2
    clear o2
    go_wp2_with fail
    refine (iRunLockO_c A2 Am c2 cm (optL l) n m w2 r2 hM (by omega) hml).mono ?_
    rintro e w3 ⟨M, c, rfl, oM, hb3⟩
    have hbe := below_trans hb2 (Nat.le_refl _) hb3
    have HMo := Lib.hid (oM.imp id (fun h => OR.mono h hb2.size))
    clear oM
    go_wp2
    go_ret2
    exact ⟨M, c, rfl, HMo.out, hbe⟩
  · have hV : V = m := HLM.out
    subst hV
    clear HLM HRC
    obtain ⟨mb0, mo0, y0, rfl, _, _, _⟩ := hM.at_ (k := 0) (by omega)
    go_wp2_with fail
    refine (cloneI_c _ cm V w1 hM hml (fun e => by cases e)).mono ?_
    rintro e w2 ⟨M, c, rfl, oM, hb2⟩
    have hbe := below_trans hb1 (Nat.le_refl _) hb2
    have HMo := Lib.hid (OR.mono oM hb1.size)
    clear oM
    go_wp2
    go_ret2
    exact ⟨M, c, rfl, .inr HMo.out, hbe⟩
  · have hV : V = m := HLM.out
    subst hV
    clear HLM HRC
    obtain ⟨mb0, mo0, y0, rfl, _, _, _⟩ := hM.at_ (k := 0) (by omega)
    go_wp2_with fail
    refine (cloneI_c _ cm V w1 hM hml (fun e => by cases e)).mono ?_
    rintro e w2 ⟨M, c, rfl, oM, hb2⟩
    have hbe := below_trans hb1 (Nat.le_refl _) hb2
    have HMo := Lib.hid (OR.mono oM hb1.size)
    clear oM
    go_wp2
    go_ret2
    exact ⟨M, c, rfl, .inr HMo.out, hbe⟩

set_option maxRecDepth 100000 in
set_option maxHeartbeats 4000000 in
theorem sLaunch_c (A Am : Option Addr) (ca cm : Nat) (l : List Cd) (n : Int) (m : List Int) (w : World) (hA : RdC w w.heap.size A l) (hM : RdI w w.heap.size Am m) (hl : l.length ≤ 1000000000) (hml : m.length ≤ 1000000000) :
    Calls Tryz.prog 14 #[.slice A l.length ca, .int .i64 n, .slice Am m.length cm] w (LaP w l n m) := by
  have hol := optL_len l
  have HRC := Lib.hid (reason_cases l n m)
  have HLM := Lib.hid (show launchM l n m = if reasonOf l n m = 0 then runOf (optL l) n m else if reasonOf l n m = 1 then [] else m from rfl)
  have HRS := Lib.hid (fun W a b => sReason_c A Am ca cm l n m W a b hl hml)
  unfold LaP
  generalize launchM l n m = V at *
  generalize reasonOf l n m = rs at *
  go_enter Tryz.func14, Tryz.ntmps14
  go_wp2_with fail
  refine (HRS.out w hA hM).mono ?_
  rintro e w1 ⟨rfl, hb1⟩
  replace hA := (hA.below hb1).more hb1.size
  replace hM := (hM.below hb1).more hb1.size
  have HO := Lib.hid (fun W a => sOptimize_c A ca l W a hl)
  rcases HRC.out with ⟨rfl, -⟩ | ⟨-, hm1, hm32, hrs⟩
  · have hV : V = [] := HLM.out
    subst hV
    clear HLM HRC
    go_wp2
    go_ret2
    exact ⟨_, _, rfl, .inr (OI.empty_ w1 w.heap.size hb1.size), hb1.alloc hb1.size _⟩
  · rcases hrs with rfl | hrs
    · have hV : V = runOf (optL l) n m := HLM.out
      subst hV
      clear HLM HRC
      go_wp2_with fail
      refine (HO.out w1 hA).mono ?_
      rintro e w2 ⟨A2, c2, rfl, o2, hb2⟩
      have r2 := OwC.rd o2
      replace hM := (hM.below hb2).more hb2.size
      replace hb2 := below_trans hb1 (Nat.le_refl _) hb2
      clear o2
      go_wp2_with fail
      refine (sRunLockO_c A2 Am c2 cm (optL l) n m w2 r2 hM (by omega) hml).mono ?_
      rintro e w3 ⟨M, c, rfl, oM, hb3⟩
      have hbe := below_trans hb2 (Nat.le_refl _) hb3
      have HMo := Lib.hid (oM.imp id (fun h => OR.mono h hb2.size))
      clear oM
      go_wp2
      go_ret2
      exact ⟨M, c, rfl, HMo.out, hbe⟩
    · have hV : V = m := by rw [HLM.out]; rcases hrs with rfl | rfl <;> rfl
      subst hV
      clear HLM HRC
      obtain ⟨mb0, mo0, y0, rfl, _, _, _⟩ := hM.at_ (k := 0) (by omega)
      have hM1 := Lib.hid (hM.below ((Below.refl w1.heap.size w1).alloc (Nat.le_refl _) (.cells #[] 3)))
      have ho0 := Lib.hid (OI.empty_ w1 w1.heap.size (Nat.le_refl _))
      rcases hrs with rfl | rfl
      · go_wp2_with (at_builtin; refine app_rd 24 3 _ 1 8 Tryz.underlying24 infoInt rfl (by decide) (by decide) rfl _ _ rfl w1.heap.size _ 0 0 _ ho0.out rfl w1.heap.size ⟨mb0, mo0, none⟩ V.length cm _ rfl hM1.out (ints_one V) ?hn ?hb ?_)
        case hn => omega
        case hb => simp
        intro A' c' w2 ho1 hg1
        have hb2 := below_gr ((Below.refl w1.heap.size w1).alloc (Nat.le_refl _) (.cells #[] 3)) (by simp) ho0.out (Nat.le_refl _) hg1
        replace ho1 : OI w2 w1.heap.size A' V.length c' V := by unfold OI; simpa using ho1
        have HMo := Lib.hid (OR.mono ho1 hb1.size)
        have hbe := below_trans hb1 (Nat.le_refl _) hb2
        clear hM1 ho0 hg1 ho1
        go_wp2
        go_ret2
        exact ⟨A', c', rfl, .inr HMo.out, hbe⟩
      · go_wp2_with (at_builtin; refine app_rd 24 3 _ 1 8 Tryz.underlying24 infoInt rfl (by decide) (by decide) rfl _ _ rfl w1.heap.size _ 0 0 _ ho0.out rfl w1.heap.size ⟨mb0, mo0, none⟩ V.length cm _ rfl hM1.out (ints_one V) ?hn ?hb ?_)
        case hn => omega
        case hb => simp
        intro A' c' w2 ho1 hg1
        have hb2 := below_gr ((Below.refl w1.heap.size w1).alloc (Nat.le_refl _) (.cells #[] 3)) (by simp) ho0.out (Nat.le_refl _) hg1
        replace ho1 : OI w2 w1.heap.size A' V.length c' V := by unfold OI; simpa using ho1
        have HMo := Lib.hid (OR.mono ho1 hb1.size)
        have hbe := below_trans hb1 (Nat.le_refl _) hb2
        clear hM1 ho0 hg1 ho1
        go_wp2
        go_ret2
        exact ⟨A', c', rfl, .inr HMo.out, hbe⟩
theorem opt_le {l : List Cd} (h : pv l = true) {n : Nat} (hn : 1 ≤ n ∧ n ≤ 8) {m : List Int} (hm : memOk m = true) : Less n m l (optL l) := by
  have e : optL l = packL (dropDeadL (picked l)) := by simp [optL, usePicksL, h]
  rw [e]
  exact opt_less h hn hm
theorem less_ok {l l' : List Cd} {n : Nat} {m : List Int} (h : lockOk l n m = true) (k : Less n m l l') : lockOk l' n m = true ∧ runOf l' n m = runOf l n m := by
  have h' := h
  simp only [lockOk, Bool.and_eq_true] at h'
  have e : lockOk l' n m = true := by simp only [lockOk, k.ok, h'.2.1, h'.2.2, Bool.and_self]
  refine ⟨e, ?_⟩
  simp only [runOf, h, e, if_true, Int.toNat_natCast, k.mem]
theorem opt_run {l : List Cd} {n : Int} {mem : List Int} (hok : lockOk l n mem = true) : lockOk (optL l) n mem = true ∧ runOf (optL l) n mem = runOf l n mem := by
  have h' := hok
  simp only [lockOk, Bool.and_eq_true] at h'
  obtain ⟨k, rfl⟩ : ∃ k : Nat, n = (k : Int) := ⟨n.toNat, by have := (inR_iff.1 h'.2.1).1; omega⟩
  have := inR_iff.1 h'.2.1
  exact less_ok hok (opt_le h'.1 (by omega) h'.2.2)


/-! ### Lanes of a mask -/

/-! ### Programs without blocks -/


theorem scanA_nb {l : List Cd} {n d : Nat} {x : Cd} (h : l[n]? = some x) (h1 : opB x = false) (h2 : x.op ≠ 14) : scanA l (n + 1) d = scanA l n d := by
  have e : (x.op == 14) = false := beq_eq_false_iff_ne.2 h2
  rw [scanA_step l n d x h, h1, e]; rfl
theorem scanA_drop {b : Blk} {d : Nat} (hb : b.ok d) {l rest : List Cd} {p : Nat} (h : l.drop p = b.flat ++ rest) (hp : p ≤ l.length) : scanA l (p + b.flat.length) 0 = scanA l p 0 := by
  have e : l = l.take p ++ (b.flat ++ rest) := by rw [← h, List.take_append_drop]
  have hl : (l.take p).length = p := by simp [List.length_take]; omega
  have := scanA_flat b d (l.take p) rest 0 hb
  rw [← e, hl] at this
  exact this

/-! ### Barriers -/
/-- All barriers are in no block. -/
def flatP (l : List Cd) : Prop := ∀ k, k < l.length → (cdAt l k).op = 10 → aroundOf l k = -1
instance (l : List Cd) : Decidable (flatP l) := inferInstanceAs (Decidable (∀ k, k < l.length → (cdAt l k).op = 10 → aroundOf l k = -1))

end Go.Proofs.YtelbfeidpcojmaaGreat
