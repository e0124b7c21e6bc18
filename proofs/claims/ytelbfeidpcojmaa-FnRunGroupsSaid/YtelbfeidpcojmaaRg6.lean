/- Part 6 of what the claim needs. -/
import Derived.Test.YtelbfeidpcojmaaRg4
import Derived.Test.YtelbfeidpcojmaaRg5
namespace Go.Proofs.Ytelbfeidpcojmaa
open Go.RowKit
set_option linter.unusedVariables false
set_option linter.unusedSimpArgs false

theorem left_turns (b : Blk) : ∀ (d p q : Nat) (ts : List Int) (n : Nat), b.ok d → b.left p q ts = some n → ts.length ≤ d ∧ ∀ v ∈ ts, 0 ≤ v ∧ v ≤ 3 := by
  induction b with
  | nil =>
    intro d p q ts n _ h
    simp only [Blk.left] at h
    split at h
    · rename_i h'; obtain ⟨_, rfl⟩ := h'; simp
    · cases h
  | op x r ih =>
    intro d p q ts n ⟨_, _, _, hr⟩ h
    simp only [Blk.left] at h
    split at h
    · split at h
      · rename_i h'; subst h'; simp
      · cases h
    · exact ih d _ _ _ _ hr h
  | iff a t r iht ihr =>
    intro d p q ts n ⟨_, hd, ht, hr⟩ h
    simp only [Blk.left] at h
    split at h
    · split at h
      · rename_i h'; subst h'; simp
      · cases h
    · split at h
      · cases hk : t.left (p + 1) q ts with
        | none => rw [hk] at h; cases h
        | some k =>
          obtain ⟨h1, h2⟩ := iht _ _ _ _ _ ht hk
          exact ⟨by omega, h2⟩
      · exact ihr d _ _ _ _ hr h
  | ife a t e r iht ihe ihr =>
    intro d p q ts n ⟨_, hd, ht, he, hr⟩ h
    simp only [Blk.left] at h
    split at h
    · split at h
      · rename_i h'; subst h'; simp
      · cases h
    · split at h
      · cases hk : t.left (p + 1) q ts with
        | none => rw [hk] at h; cases h
        | some k =>
          obtain ⟨h1, h2⟩ := iht _ _ _ _ _ ht hk
          exact ⟨by omega, h2⟩
      · split at h
        · cases hk : e.left (p + t.flat.length + 2) q ts with
          | none => rw [hk] at h; cases h
          | some k =>
            obtain ⟨h1, h2⟩ := ihe _ _ _ _ _ he hk
            exact ⟨by omega, h2⟩
        · exact ihr d _ _ _ _ hr h
  | loop a c t r iht ihr =>
    intro d p q ts n ⟨_, hc, hd, ht, hr⟩ h
    simp only [Blk.left] at h
    split at h
    · split at h
      · rename_i h'; subst h'; simp
      · cases h
    · split at h
      · cases ts with
        | nil => cases h
        | cons k ts' =>
          simp only at h
          split at h
          · rename_i hkb
            cases hk : t.left (p + 1) q ts' with
            | none => rw [hk] at h; cases h
            | some j =>
              obtain ⟨h1, h2⟩ := iht _ _ _ _ _ ht hk
              refine ⟨by simp; omega, fun v hv => ?_⟩
              rcases List.mem_cons.1 hv with rfl | hv
              · omega
              · exact h2 v hv
          · cases h
      · exact ihr d _ _ _ _ hr h

theorem cdAt_drop_op {l : List Cd} {q : Nat} {x : Cd} {r : List Cd} (h : l.drop q = x :: r) : (cdAt l q).op = x.op := by rw [cdAt_drop h]
/-- At the end of a loop there is a turn. -/
theorem left_loop {l : List Cd} (b : Blk) : ∀ (d p q : Nat) (rest : List Cd) (ts : List Int) (n : Nat), b.ok d → l.drop p = b.flat ++ rest → q < p + b.flat.length → b.left p q ts = some n →
    (cdAt l q).op = 14 → opAt l (aroundN l q) = 13 → ts ≠ [] := by
  induction b with
  | nil =>
    intro d p q rest ts n _ _ hq h
    obtain ⟨h1, _⟩ := left_in _ _ _ _ _ h
    simp [Blk.flat] at hq
    omega
  | op x s ih =>
    intro d p q rest ts n ⟨hv, ho1, ho, hs⟩ hd hq h h14 h13
    have hd' : l.drop p = x :: (s.flat ++ rest) := by rw [hd]; simp [Blk.flat]
    obtain ⟨k1, k2, k3⟩ := drop_cons hd'
    simp only [Blk.left] at h
    by_cases e : q = p
    · subst e
      have := cdAt_drop_op hd'
      omega
    · rw [if_neg e] at h
      exact ih d (p + 1) q rest ts n hs k2 (by simp [Blk.flat] at hq; omega) h h14 h13
  | iff a t s iht ihs =>
    intro d p q rest ts n ⟨ha, hd1, ht, hs⟩ hd hq h h14 h13
    have hd' : l.drop p = cIf a :: (t.flat ++ cEnd :: (s.flat ++ rest)) := by rw [hd]; simp [Blk.flat]
    obtain ⟨-, k2, k3⟩ := end_iff ht hd'
    have har := around_tree ht (show opB (cIf a) = true from rfl) hd'
    have hlen : (Blk.iff a t s).flat.length = t.flat.length + 2 + s.flat.length := by simp [Blk.flat]; omega
    simp only [Blk.left] at h
    by_cases e : q = p
    · subst e
      have h1 := cdAt_drop_op hd'
      rw [h1] at h14
      exact absurd h14 (by simp [cIf])
    · rw [if_neg e] at h
      by_cases e2 : q < p + t.flat.length + 2
      · rw [if_pos e2] at h
        cases hk : t.left (p + 1) q ts with
        | none => rw [hk] at h; cases h
        | some k =>
          obtain ⟨g1, g2, g3⟩ := left_in _ _ _ _ _ hk
          by_cases e3 : q = p + 1 + t.flat.length
          · have e4 : q = p + t.flat.length + 1 := by omega
            subst e4
            rw [har, opAt_drop hd'] at h13
            exact absurd h13 (by simp [cIf])
          · exact iht _ (p + 1) q _ ts k ht k2 (by omega) hk h14 h13
      · rw [if_neg e2] at h
        exact ihs d (p + t.flat.length + 2) q rest ts n hs k3 (by omega) h h14 h13
  | ife a t e s iht ihe ihs =>
    intro d p q rest ts n ⟨ha, hd1, ht, he, hs⟩ hd hq h h14 h13
    have hd' : l.drop p = cIf a :: (t.flat ++ cElse :: (e.flat ++ cEnd :: (s.flat ++ rest))) := by rw [hd]; simp [Blk.flat]
    obtain ⟨-, k2, k4, k3⟩ := end_ife ht he hd'
    have har2 := around_ife ht he (show opB (cIf a) = true from rfl) hd'
    have hE : l.drop (p + t.flat.length + 1) = cElse :: (e.flat ++ cEnd :: (s.flat ++ rest)) := by
      have := drop_skip k2
      rw [← this]; congr 1; omega
    have hlen : (Blk.ife a t e s).flat.length = t.flat.length + e.flat.length + 3 + s.flat.length := by simp [Blk.flat]; omega
    simp only [Blk.left] at h
    by_cases e0 : q = p
    · subst e0
      have h1 := cdAt_drop_op hd'
      rw [h1] at h14
      exact absurd h14 (by simp [cIf])
    · rw [if_neg e0] at h
      by_cases e2 : q < p + t.flat.length + 2
      · rw [if_pos e2] at h
        cases hk : t.left (p + 1) q ts with
        | none => rw [hk] at h; cases h
        | some k =>
          obtain ⟨g1, g2, g3⟩ := left_in _ _ _ _ _ hk
          by_cases e3 : q = p + 1 + t.flat.length
          · have e4 : q = p + t.flat.length + 1 := by omega
            subst e4
            have h1 := cdAt_drop_op hE
            rw [h1] at h14
            exact absurd h14 (by simp [cElse])
          · exact iht _ (p + 1) q _ ts k ht k2 (by omega) hk h14 h13
      · rw [if_neg e2] at h
        by_cases e5 : q < p + t.flat.length + e.flat.length + 3
        · rw [if_pos e5] at h
          cases hk : e.left (p + t.flat.length + 2) q ts with
          | none => rw [hk] at h; cases h
          | some k =>
            obtain ⟨g1, g2, g3⟩ := left_in _ _ _ _ _ hk
            by_cases e3 : q = p + t.flat.length + 2 + e.flat.length
            · have e4 : q = p + t.flat.length + e.flat.length + 2 := by omega
              subst e4
              rw [har2, opAt_drop hd'] at h13
              exact absurd h13 (by simp [cIf])
            · exact ihe _ (p + t.flat.length + 2) q _ ts k he k4 (by omega) hk h14 h13
        · rw [if_neg e5] at h
          exact ihs d (p + t.flat.length + e.flat.length + 3) q rest ts n hs k3 (by omega) h h14 h13
  | loop a c t s iht ihs =>
    intro d p q rest ts n ⟨ha, hc, hd1, ht, hs⟩ hd hq h h14 h13
    have hd' : l.drop p = cLoop a c :: (t.flat ++ cEnd :: (s.flat ++ rest)) := by rw [hd]; simp [Blk.flat]
    obtain ⟨-, k2, k3⟩ := end_iff ht hd'
    have hlen : (Blk.loop a c t s).flat.length = t.flat.length + 2 + s.flat.length := by simp [Blk.flat]; omega
    simp only [Blk.left] at h
    by_cases e : q = p
    · subst e
      have h1 := cdAt_drop_op hd'
      rw [h1] at h14
      exact absurd h14 (by simp [cLoop])
    · rw [if_neg e] at h
      by_cases e2 : q < p + t.flat.length + 2
      · rw [if_pos e2] at h
        cases ts with
        | nil => cases h
        | cons k ts' => simp
      · rw [if_neg e2] at h
        exact ihs d (p + t.flat.length + 2) q rest ts n hs k3 (by omega) h h14 h13

theorem LnOk.turns {l : List Cd} (hp : pv l = true) {s : Ln} (h : LnOk l s) : s.turns.length ≤ 3 ∧ ∀ v ∈ s.turns, 0 ≤ v ∧ v ≤ 3 := by
  obtain ⟨n, hn⟩ := h.left
  exact left_turns _ _ _ _ _ _ (treeOf_spec hp).1 hn
theorem LnOk.loop_ {l : List Cd} (hp : pv l = true) {s : Ln} (h : LnOk l s) (hlt : s.pos < l.length) (h14 : (cdAt l s.pos).op = 14) (h13 : opAt l (aroundN l s.pos) = 13) : s.turns ≠ [] := by
  obtain ⟨n, hn⟩ := h.left
  obtain ⟨h1, h2⟩ := treeOf_spec hp
  exact left_loop (l := l) (treeOf l) 3 0 s.pos [] s.turns n h1 (by simp [h2]) (by rw [h2]; omega) hn h14 h13

/-! ### A lane of a crowd is another -/
def Cw.put (c : Cw) (k : Nat) (s : Ln) : Cw := ⟨c.ls.set k s, c.mem⟩
theorem put_lane {c : Cw} {k : Nat} (hk : k < c.ls.length) (s : Ln) : (c.put k s).lane k = s := by
  simp [Cw.put, Cw.lane, List.getD_eq_getElem?_getD, hk]
theorem put_other {c : Cw} {k j : Nat} (h : j ≠ k) (s : Ln) : (c.put k s).lane j = c.lane j := by
  simp [Cw.put, Cw.lane, List.getD_eq_getElem?_getD, List.getElem?_set_ne (fun e => h e.symm)]
theorem put_self {c : Cw} {k : Nat} (hk : k < c.ls.length) : c.put k (c.lane k) = c := by
  have e : c.ls[k]? = some (c.lane k) := by simp [Cw.lane, List.getD_eq_getElem?_getD, hk]
  have e2 : c.ls.set k (c.lane k) = c.ls := by
    apply List.ext_getElem?
    intro i
    rw [List.getElem?_set]
    by_cases h : k = i
    · subst h; rw [if_pos rfl, if_pos hk, e]
    · rw [if_neg h]
  unfold Cw.put
  rw [e2]
/-- A step that touches no cell and no register. -/
theorem stepAt_move {l : List Cd} {c : Cw} {k : Nat} (h : 10 < (cdAt l (c.lane k).pos).op) : stepAt l c k = c.put k ⟨(c.lane k).regs, (nextP l (c.lane k).regs (c.lane k).pos (c.lane k).turns).1, (nextP l (c.lane k).regs (c.lane k).pos (c.lane k).turns).2, false⟩ := by
  have hs : simp1 (cdAt l (c.lane k).pos) k (c.lane k).regs c.mem = ((c.lane k).regs, c.mem) := by
    generalize cdAt l (c.lane k).pos = x at h
    have e : ∀ j : Int, j ≤ 10 → (x.op == j) = false := fun j hj => beq_eq_false_iff_ne.2 (by omega)
    simp [simp1, e 1 (by decide), e 2 (by decide), e 3 (by decide), e 4 (by decide), e 5 (by decide), e 6 (by decide), e 7 (by decide), e 8 (by decide), e 9 (by decide)]
  have hw : ((cdAt l (c.lane k).pos).op == 10) = false := beq_eq_false_iff_ne.2 (by omega)
  unfold stepAt stepL Cw.put
  rw [hs, hw]
/-- A step that computes, loads or stores. -/
theorem stepAt_simple {l : List Cd} {c : Cw} {k : Nat} (h : (cdAt l (c.lane k).pos).op ≤ 10) : stepAt l c k = (⟨c.ls, (simp1 (cdAt l (c.lane k).pos) k (c.lane k).regs c.mem).2⟩ : Cw).put k ⟨(simp1 (cdAt l (c.lane k).pos) k (c.lane k).regs c.mem).1, (c.lane k).pos + 1, (c.lane k).turns, (cdAt l (c.lane k).pos).op == 10⟩ := by
  have hn := next_op (l := l) (q := (c.lane k).pos) (r := (c.lane k).regs) (ts := (c.lane k).turns) h
  unfold stepAt stepL Cw.put
  rw [hn]


def maskL (ks : List Nat) : Nat := ks.foldl (fun m k => m ||| 2 ^ k) 0
theorem maskL_snoc (ks : List Nat) (k : Nat) : maskL (ks ++ [k]) = maskL ks ||| 2 ^ k := by simp [maskL]
theorem maskL_bit (ks : List Nat) (j : Nat) : (maskL ks).testBit j = decide (j ∈ ks) := by
  have : ∀ (ks : List Nat) (m : Nat), (ks.foldl (fun m k => m ||| 2 ^ k) m).testBit j = (m.testBit j || decide (j ∈ ks)) := by
    intro ks
    induction ks with
    | nil => intro m; simp
    | cons k ks ih =>
      intro m
      simp only [List.foldl_cons, ih, Nat.testBit_or, List.mem_cons]
      by_cases h : j = k
      · subst h; simp [Nat.testBit_two_pow_self]
      · have : (2 ^ k).testBit j = false := by rw [Nat.testBit_two_pow]; simp; omega
        simp [this, h]
  have := this ks 0
  simpa [maskL] using this
theorem maskL_lt {ks : List Nat} (h : ∀ k ∈ ks, k < 8) : maskL ks < 256 := by
  have : ∀ (ks : List Nat) (m : Nat), (∀ k ∈ ks, k < 8) → m < 2 ^ 8 → ks.foldl (fun m k => m ||| 2 ^ k) m < 2 ^ 8 := by
    intro ks
    induction ks with
    | nil => intro m _ hm; exact hm
    | cons k ks ih =>
      intro m hk hm
      exact ih _ (fun j hj => hk j (List.mem_cons_of_mem _ hj)) (Nat.or_lt_two_pow hm (Nat.pow_lt_pow_right (by decide) (hk k List.mem_cons_self)))
  exact this ks 0 h (by decide)
theorem lanesOf_maskL {q : Nat → Bool} : lanesOf (maskL ((List.range 8).filter q)) = (List.range 8).filter q := by
  unfold lanesOf
  apply List.filter_congr
  intro k hk
  rw [maskL_bit]
  simp only [List.mem_filter, hk, true_and]
  cases q k <;> rfl
theorem filter_lanes {m : Nat} {q : Nat → Bool} : (lanesOf m).filter q = (List.range 8).filter fun k => m.testBit k && q k := by
  unfold lanesOf
  rw [List.filter_filter]
  apply List.filter_congr
  intro k _
  cases q k <;> cases m.testBit k <;> rfl
theorem lanes_among (l : List Cd) (c : Cw) (m : Nat) : lanesOf (maskL (amongL l c (lanesOf m))) = amongL l c (lanesOf m) := by
  unfold amongL
  rw [filter_lanes, lanesOf_maskL]
theorem lanes_nodup (m : Nat) : (lanesOf m).Nodup := (List.nodup_range).filter _

theorem leastP_snoc (l : List Cd) (c : Cw) (ks : List Nat) (k : Nat) : leastP l c (ks ++ [k]) = if goesL l (c.lane k) && decide ((c.lane k).pos < leastP l c ks) then (c.lane k).pos else leastP l c ks := by
  simp [leastP]
theorem leastP_le (l : List Cd) (c : Cw) (ks : List Nat) : leastP l c ks ≤ l.length ∧ ∀ j ∈ ks, goesL l (c.lane j) = true → leastP l c ks ≤ (c.lane j).pos := by
  rcases leastP_fold (l := l) (c := c) ks l.length (Nat.le_refl _) with ⟨e, h⟩ | ⟨k, _, h1, h2, h3, h4⟩
  · have e' : leastP l c ks = l.length := e
    rw [e']
    exact ⟨Nat.le_refl _, h⟩
  · have e' : leastP l c ks = (c.lane k).pos := h3
    rw [e']
    exact ⟨by omega, h4⟩
theorem among_less {l : List Cd} {c : Cw} {ks : List Nat} {k : Nat} (hg : goesL l (c.lane k) = true) (h : (c.lane k).pos < leastP l c ks) : leastP l c (ks ++ [k]) = (c.lane k).pos ∧ amongL l c (ks ++ [k]) = [k] := by
  have e : leastP l c (ks ++ [k]) = (c.lane k).pos := by rw [leastP_snoc, hg]; simp [h]
  refine ⟨e, ?_⟩
  unfold amongL
  rw [e, List.filter_append]
  have h1 : ks.filter (fun j => goesL l (c.lane j) && decide ((c.lane j).pos = (c.lane k).pos)) = [] := by
    rw [List.filter_eq_nil_iff]
    intro j hj
    simp only [Bool.and_eq_true, decide_eq_true_eq, not_and]
    intro hgj
    have := (leastP_le l c ks).2 j hj hgj
    omega
  rw [h1]
  simp [hg]
theorem among_same {l : List Cd} {c : Cw} {ks : List Nat} {k : Nat} (hg : goesL l (c.lane k) = true) (h : (c.lane k).pos = leastP l c ks) : leastP l c (ks ++ [k]) = leastP l c ks ∧ amongL l c (ks ++ [k]) = amongL l c ks ++ [k] := by
  have e : leastP l c (ks ++ [k]) = leastP l c ks := by rw [leastP_snoc, hg]; simp [h]
  refine ⟨e, ?_⟩
  unfold amongL
  rw [e, List.filter_append]
  simp [hg, h]
theorem among_more {l : List Cd} {c : Cw} {ks : List Nat} {k : Nat} (h : goesL l (c.lane k) = true → leastP l c ks < (c.lane k).pos) : leastP l c (ks ++ [k]) = leastP l c ks ∧ amongL l c (ks ++ [k]) = amongL l c ks := by
  have e : leastP l c (ks ++ [k]) = leastP l c ks := by
    rw [leastP_snoc]
    cases hg : goesL l (c.lane k) with
    | false => simp
    | true => have := h hg; rw [if_neg]; simp; omega
  refine ⟨e, ?_⟩
  unfold amongL
  rw [e, List.filter_append]
  have : [k].filter (fun j => goesL l (c.lane j) && decide ((c.lane j).pos = leastP l c ks)) = [] := by
    rw [List.filter_eq_nil_iff]
    intro j hj
    have : j = k := by simpa using hj
    subst this
    simp only [Bool.and_eq_true, decide_eq_true_eq, not_and]
    intro hgj
    have := h hgj
    omega
  rw [this, List.append_nil]

/-! ### Steps of lanes that go -/
/-- The crowd behind a step of lane k, if this goes. -/
def stepIf (l : List Cd) (c : Cw) (k : Nat) : Cw := if goesL l (c.lane k) then stepAt l c k else c
theorem stepIf_ok {l : List Cd} (hp : pv l = true) {n : Nat} (n8 : n ≤ 8) {c : Cw} (h : CwOk l n c) {k : Nat} (hk : k < n) : CwOk l n (stepIf l c k) ∧ (stepIf l c k).mem.length = c.mem.length := by
  unfold stepIf
  split
  · rename_i hg
    obtain ⟨h1, _, h3⟩ := h.stepAt hp n8 hk (goes_pos hg).2
    exact ⟨h1, h3⟩
  · exact ⟨h, rfl⟩
theorem steps_go {l : List Cd} : ∀ (ks : List Nat) (c : Cw), ks.Nodup → (∀ k ∈ ks, goesL l (c.lane k) = true) → ks.foldl (stepIf l) c = ks.foldl (stepAt l) c
  | [], _, _, _ => rfl
  | k :: ks, c, hn, hg => by
    obtain ⟨h1, h2⟩ := List.nodup_cons.1 hn
    simp only [List.foldl_cons]
    have e : stepIf l c k = stepAt l c k := by unfold stepIf; rw [if_pos (hg k List.mem_cons_self)]
    rw [e]
    refine steps_go ks _ h2 (fun j hj => ?_)
    rw [lane_stepAt (fun e => by subst e; exact h1 hj)]
    exact hg j (List.mem_cons_of_mem _ hj)
theorem stepG_eq (l : List Cd) (c : Cw) (m : Nat) : stepG l c (lanesOf m) = passC l ((lanesOf (maskL (amongL l c (lanesOf m)))).foldl (stepIf l) c) := by
  rw [lanes_among]
  unfold stepG
  rw [steps_go (amongL l c (lanesOf m)) c ((lanes_nodup m).filter _) (fun k hk => (among_sub hk).2)]

/-! ### A barrier passed, lane by lane -/
def freeTo (c : Cw) (i : Nat) : Cw := ⟨(List.range c.ls.length).map fun j => if j < i then { c.lane j with waits := false } else c.lane j, c.mem⟩
theorem freeTo_lane {c : Cw} {i j : Nat} (hj : j < c.ls.length) : (freeTo c i).lane j = if j < i then { c.lane j with waits := false } else c.lane j := by
  have : ((freeTo c i).ls)[j]? = some (if j < i then { c.lane j with waits := false } else c.lane j) := by simp [freeTo, hj]
  show ((freeTo c i).ls).getD j Ln.new = _
  rw [List.getD_eq_getElem?_getD, this]
  rfl
theorem cw_eta (c : Cw) : (List.range c.ls.length).map c.lane = c.ls := by
  apply List.ext_getElem?
  intro i
  by_cases h : i < c.ls.length
  · simp [h, Cw.lane, List.getD_eq_getElem?_getD]
  · rw [List.getElem?_eq_none (by simp; omega), List.getElem?_eq_none (by omega)]
theorem freeTo_zero (c : Cw) : freeTo c 0 = c := by
  unfold freeTo
  simp only [Nat.not_lt_zero, if_false]
  have := cw_eta c
  cases c
  simp only at this ⊢
  rw [Cw.mk.injEq]
  exact ⟨this, rfl⟩
theorem freeTo_all {l : List Cd} {c : Cw} (h : ∀ k, k < c.ls.length → goesL l (c.lane k) = false) : freeTo c c.ls.length = passC l c := by
  have hn : c.ls.any (goesL l) = false := by
    rw [List.any_eq_false]
    intro s hs
    obtain ⟨k, hk, rfl⟩ := List.getElem_of_mem hs
    have := h k hk
    have e : c.lane k = c.ls[k] := by simp [Cw.lane, List.getD_eq_getElem?_getD, hk]
    rw [e] at this
    simp [this]
  unfold passC
  rw [hn]
  simp only [Bool.false_eq_true, if_false]
  unfold freeTo
  rw [Cw.mk.injEq]
  refine ⟨?_, rfl⟩
  have e : (List.range c.ls.length).map (fun j => if j < c.ls.length then ({ c.lane j with waits := false } : Ln) else c.lane j) = (List.range c.ls.length).map (fun j => ({ c.lane j with waits := false } : Ln)) := by
    apply List.map_congr_left
    intro j hj
    rw [if_pos (List.mem_range.1 hj)]
  rw [e]
  have := congrArg (List.map fun s : Ln => ({ s with waits := false } : Ln)) (cw_eta c)
  rw [List.map_map] at this
  exact this
theorem pass_go {l : List Cd} {c : Cw} {k : Nat} (hk : k < c.ls.length) (hg : goesL l (c.lane k) = true) : passC l c = c := by
  unfold passC
  rw [if_pos]
  rw [List.any_eq_true]
  have e : c.lane k = c.ls[k] := by simp [Cw.lane, List.getD_eq_getElem?_getD, hk]
  exact ⟨c.ls[k], List.getElem_mem hk, by rw [← e]; exact hg⟩
theorem over_iff_pos {l : List Cd} {n : Nat} {c : Cw} (h : CwOk l n c) (hp : pv l = true) : overC l c = true ↔ ∀ k, k < n → (c.lane k).pos = l.length := by
  unfold overC
  rw [List.all_eq_true]
  constructor
  · intro h1 k hk
    obtain ⟨e, hL⟩ := h.at_ hk
    have := h1 _ (List.mem_of_getElem? e)
    have := (hL.pos_le hp).1
    simp only [decide_eq_true_eq] at *
    omega
  · intro h1 s hs
    obtain ⟨k, hk, rfl⟩ := List.getElem_of_mem hs
    have e : c.lane k = c.ls[k] := by simp [Cw.lane, List.getD_eq_getElem?_getD, hk]
    have := h1 k (by rw [← h.len]; exact hk)
    rw [e] at this
    simp [this]


set_option maxRecDepth 100000 in
set_option maxHeartbeats 16000000 in
theorem l6Simple_c (x : Cd) (id : Nat) (r m : List Int) (base rb rc mb mc mn : Nat) (w : World) (hv : cvOk x = true) (h10 : x.op ≤ 10) (hid : id ≤ 7)
    (hR : OI w base (some ⟨rb, 0, none⟩) 4 rc r) (hM : OI w base (some ⟨mb, 0, none⟩) mn mc m) (hne : rb ≠ mb) (hr : wordsOk r) (hm : wordsOk m) (hml : 1 ≤ mn ∧ mn ≤ 32) :
    Calls Try.prog 79 #[.slice (some ⟨rb, 0, none⟩) 4 rc, .slice (some ⟨mb, 0, none⟩) mn mc, x.val, .int .i64 id] w fun e w' => e = .returned (.tuple #[]) ∧ Simp1 w base rb rc mb mn mc x id r m w' := by
  have hrl : r.length = 4 := OI.len hR
  have hmn : m.length = mn := OI.len hM
  obtain ⟨hRb0, hRb1⟩ := OR.block hR rb rfl
  obtain ⟨hMb0, hMb1⟩ := OR.block hM mb rfl
  obtain ⟨hm1, hm2⟩ := hml
  have ha := cvOk_a hv
  have hb := cvOk_b hv
  have hc := cvOk_c hv
  have hb2 := cvOk_b2 hv
  have ho := op14' hv h10
  obtain ⟨a, hae⟩ := Int.eq_ofNat_of_zero_le ha.1
  obtain ⟨b, hbe⟩ := Int.eq_ofNat_of_zero_le hb.1
  obtain ⟨c, hce⟩ := Int.eq_ofNat_of_zero_le hc.1
  obtain ⟨o, xa, xb, xc⟩ := x
  simp only at ha hb hc hb2 hae hbe hce ho h10
  subst hae hbe hce
  have la : a ≤ 3 := by omega
  have lc : c ≤ 3 := by omega
  have a4 : (a : Int) < 4 := by omega
  have c4 : (c : Int) < 4 := by omega
  have ca := (OI.at0 hR).1 a _ (rg_get hrl la)
  have cc := (OI.at0 hR).1 c _ (rg_get hrl lc)
  have wa := rg_word hr a
  have wc := rg_word hr c
  have wb := rg_word hr b
  have fa := (OI.at0 hR).2.1 a
  have HR := Lib.hid hR
  have HM := Lib.hid hM
  have HRL := Lib.hid hrl
  have HMN := Lib.hid hmn
  have hob1 : Value.ownBlock (.slice (some ⟨mb, 0, none⟩) mn mc) ≠ some rb := fun e => hne (by injection e with e; exact e.symm)
  have hob2 : Value.ownBlock (.slice (some ⟨rb, 0, none⟩) 4 rc) ≠ some mb := fun e => hne (by injection e with e)
  have HO1 := Lib.hid hob1
  have HO2 := Lib.hid hob2
  have HX0 := Lib.hid (Off.refl w rb mb)
  clear hR hM hr hrl hmn hv hob1 hob2
  unfold Cd.val
  rcases ho with rfl | rfl | rfl | rfl | rfl | rfl | rfl | rfl | rfl | rfl
  · clear hb2 hm
    go_enter Try.func79, Try.ntmps79
    go_wp2
    go_end0
    exact ⟨rfl, OR.alloc ((OI.at0 HR.out).2.2 a b) _, OR.alloc (OR.set_other HM.out (p := ⟨rb, a, none⟩) HO1.out _) _, (HX0.out.set1 _ _).alloc _⟩
  · clear hb2 hm
    go_enter Try.func79, Try.ntmps79
    go_wp2
    go_end0
    exact ⟨rfl, OR.alloc ((OI.at0 HR.out).2.2 a id) _, OR.alloc (OR.set_other HM.out (p := ⟨rb, a, none⟩) HO1.out _) _, (HX0.out.set1 _ _).alloc _⟩
  · -- op 3
    have lb : b ≤ 3 := by have := hb2 (by omega); omega
    have b4 : (b : Int) < 4 := by omega
    have cb := (OI.at0 HR.out).1 b _ (rg_get HRL.out lb)
    clear hb2 hm
    go_enter Try.func79, Try.ntmps79
    go_wp2_with fail
    obtain ⟨d0, d1, d2, d3⟩ := cd_cells w ⟨3, a, b, c⟩ 68
    simp only at d0 d1 d2 d3
    have hX := Ext.alloc w (.cells #[.int .i64 3, .int .i64 a, .int .i64 b, .int .i64 c] 68)
    have hO := HX0.out.alloc (.cells #[.int .i64 3, .int .i64 a, .int .i64 b, .int .i64 c] 68)
    replace ca := hX.cell ca
    replace cb := hX.cell cb
    replace cc := hX.cell cc
    have HR2 := Lib.hid (OR.ext HR.out hX)
    have HM2 := Lib.hid (OR.ext HM.out hX)
    replace fa := (OI.at0 HR2.out).2.1 a
    generalize w.alloc (.cells #[.int .i64 3, .int .i64 a, .int .i64 b, .int .i64 c] 68) = W at *
    have HO := Lib.hid hO
    clear hX hO
    go_still_tail 15, (by kernel_rfl)
    still_call (calls_flip (sWordAdd_c _ _ _ wa wb))
    repeat still_step
    try refine wpStill_nil ?_
    go_wp2
    go_end0
    exact ⟨rfl, OR.drew ((OI.at0 HR2.out).2.2 a ((rg r a + rg r b) % 256)), OR.drew (OR.set_other HM2.out (p := ⟨rb, a, none⟩) HO1.out _), (HO.out.set1 _ _).drew⟩
  · -- op 4
    have lb : b ≤ 3 := by have := hb2 (by omega); omega
    have b4 : (b : Int) < 4 := by omega
    have cb := (OI.at0 HR.out).1 b _ (rg_get HRL.out lb)
    clear hb2 hm
    go_enter Try.func79, Try.ntmps79
    go_wp2_with fail
    obtain ⟨d0, d1, d2, d3⟩ := cd_cells w ⟨4, a, b, c⟩ 68
    simp only at d0 d1 d2 d3
    have hX := Ext.alloc w (.cells #[.int .i64 4, .int .i64 a, .int .i64 b, .int .i64 c] 68)
    have hO := HX0.out.alloc (.cells #[.int .i64 4, .int .i64 a, .int .i64 b, .int .i64 c] 68)
    replace ca := hX.cell ca
    replace cb := hX.cell cb
    replace cc := hX.cell cc
    have HR2 := Lib.hid (OR.ext HR.out hX)
    have HM2 := Lib.hid (OR.ext HM.out hX)
    replace fa := (OI.at0 HR2.out).2.1 a
    generalize w.alloc (.cells #[.int .i64 4, .int .i64 a, .int .i64 b, .int .i64 c] 68) = W at *
    have HO := Lib.hid hO
    clear hX hO
    go_still_tail 15, (by kernel_rfl)
    still_call (calls_flip (sWordMul_c _ _ _ wa wb))
    repeat still_step
    try refine wpStill_nil ?_
    go_wp2
    go_end0
    exact ⟨rfl, OR.drew ((OI.at0 HR2.out).2.2 a (rg r a * rg r b % 256)), OR.drew (OR.set_other HM2.out (p := ⟨rb, a, none⟩) HO1.out _), (HO.out.set1 _ _).drew⟩
  · -- op 5
    have lb : b ≤ 3 := by have := hb2 (by omega); omega
    have b4 : (b : Int) < 4 := by omega
    have cb := (OI.at0 HR.out).1 b _ (rg_get HRL.out lb)
    clear hb2 hm
    go_enter Try.func79, Try.ntmps79
    go_wp2_with fail
    obtain ⟨d0, d1, d2, d3⟩ := cd_cells w ⟨5, a, b, c⟩ 68
    simp only at d0 d1 d2 d3
    have hX := Ext.alloc w (.cells #[.int .i64 5, .int .i64 a, .int .i64 b, .int .i64 c] 68)
    have hO := HX0.out.alloc (.cells #[.int .i64 5, .int .i64 a, .int .i64 b, .int .i64 c] 68)
    replace ca := hX.cell ca
    replace cb := hX.cell cb
    replace cc := hX.cell cc
    have HR2 := Lib.hid (OR.ext HR.out hX)
    have HM2 := Lib.hid (OR.ext HM.out hX)
    replace fa := (OI.at0 HR2.out).2.1 a
    generalize w.alloc (.cells #[.int .i64 5, .int .i64 a, .int .i64 b, .int .i64 c] 68) = W at *
    have HO := Lib.hid hO
    clear hX hO
    go_still_tail 9, (by kernel_rfl)
    go_wp2
    go_end0
    exact ⟨rfl, OR.drew ((OI.at0 HR2.out).2.2 a (rg r b)), OR.drew (OR.set_other HM2.out (p := ⟨rb, a, none⟩) HO1.out _), (HO.out.set1 _ _).drew⟩
  · -- op 6
    have lb : b ≤ 3 := by have := hb2 (by omega); omega
    have b4 : (b : Int) < 4 := by omega
    have cb := (OI.at0 HR.out).1 b _ (rg_get HRL.out lb)
    clear hb2 hm
    go_enter Try.func79, Try.ntmps79
    go_wp2_with fail
    obtain ⟨d0, d1, d2, d3⟩ := cd_cells w ⟨6, a, b, c⟩ 68
    simp only at d0 d1 d2 d3
    have hX := Ext.alloc w (.cells #[.int .i64 6, .int .i64 a, .int .i64 b, .int .i64 c] 68)
    have hO := HX0.out.alloc (.cells #[.int .i64 6, .int .i64 a, .int .i64 b, .int .i64 c] 68)
    replace ca := hX.cell ca
    replace cb := hX.cell cb
    replace cc := hX.cell cc
    have HR2 := Lib.hid (OR.ext HR.out hX)
    have HM2 := Lib.hid (OR.ext HM.out hX)
    replace fa := (OI.at0 HR2.out).2.1 a
    generalize w.alloc (.cells #[.int .i64 6, .int .i64 a, .int .i64 b, .int .i64 c] 68) = W at *
    have HO := Lib.hid hO
    clear hX hO
    go_still_tail 15, (by kernel_rfl)
    still_call (calls_flip (sWordLess_c _ _ _ wb wc))
    repeat still_step
    try refine wpStill_nil ?_
    go_wp2
    go_end0
    exact ⟨rfl, OR.drew ((OI.at0 HR2.out).2.2 a (lessI (rg r b) (rg r c))), OR.drew (OR.set_other HM2.out (p := ⟨rb, a, none⟩) HO1.out _), (HO.out.set1 _ _).drew⟩
  · -- op 7
    have lb : b ≤ 3 := by have := hb2 (by omega); omega
    have b4 : (b : Int) < 4 := by omega
    have cb := (OI.at0 HR.out).1 b _ (rg_get HRL.out lb)
    clear hb2 hm
    cases hz : rg r c == 0 with
    | true =>
      have hn : (rg r c != 0) = false := by simp [bne, hz]
      have HZ := Lib.hid hz
      clear hz
      go_enter Try.func79, Try.ntmps79
      go_wp2
      go_end0
      have e : simp1 ⟨7, a, b, c⟩ id r m = (r, m) := by simp [simp1, HZ.out]
      refine ⟨rfl, ?_⟩
      unfold Simp1
      rw [e]
      exact ⟨OR.alloc HR.out _, OR.alloc HM.out _, HX0.out.alloc _⟩
    | false =>
      have hn : (rg r c != 0) = true := by simp [bne, hz]
      have HZ := Lib.hid hz
      clear hz
      go_enter Try.func79, Try.ntmps79
      go_wp2_with fail
      obtain ⟨d0, d1, d2, d3⟩ := cd_cells w ⟨7, a, b, c⟩ 68
      simp only at d0 d1 d2 d3
      have hX := Ext.alloc w (.cells #[.int .i64 7, .int .i64 a, .int .i64 b, .int .i64 c] 68)
      have hO := HX0.out.alloc (.cells #[.int .i64 7, .int .i64 a, .int .i64 b, .int .i64 c] 68)
      replace ca := hX.cell ca
      replace cb := hX.cell cb
      replace cc := hX.cell cc
      have HR2 := Lib.hid (OR.ext HR.out hX)
      have HM2 := Lib.hid (OR.ext HM.out hX)
      replace fa := (OI.at0 HR2.out).2.1 a
      generalize w.alloc (.cells #[.int .i64 7, .int .i64 a, .int .i64 b, .int .i64 c] 68) = W at *
      have HO := Lib.hid hO
      clear hX hO
      go_still_tail 9, (by kernel_rfl)
      go_wp2
      go_end0
      have e : simp1 ⟨7, a, b, c⟩ id r m = (r.set a (rg r b), m) := by simp [simp1, HZ.out]
      refine ⟨rfl, ?_⟩
      unfold Simp1
      rw [e]
      exact ⟨OR.drew ((OI.at0 HR2.out).2.2 a (rg r b)), OR.drew (OR.set_other HM2.out (p := ⟨rb, a, none⟩) HO1.out _), (HO.out.set1 _ _).drew⟩
  · -- op 8
    have lb : b ≤ 3 := by have := hb2 (by omega); omega
    have b4 : (b : Int) < 4 := by omega
    have cb := (OI.at0 HR.out).1 b _ (rg_get HRL.out lb)
    clear hb2
    obtain ⟨k, hk0⟩ := Int.eq_ofNat_of_zero_le wb.1
    have hkm : k % mn < mn := Nat.mod_lt _ (by omega)
    have hmod : Int.tmod (rg r b) (mn : Int) = ((k % mn : Nat) : Int) := by rw [hk0, Int.tmod_eq_emod_of_nonneg (by omega)]; omega
    have hwr : IntKind.i64.wrap (Int.tmod (rg r b) (mn : Int)) = ((k % mn : Nat) : Int) := by rw [hmod]; exact IntWalk.i64_in _ (by omega)
    have hidx : (rg r b % (m.length : Int)).toNat = k % mn := by rw [HMN.out, hk0]; omega
    have HIX := Lib.hid hidx
    have hmg : m[k % mn]? = some (m.getD (k % mn) 0) := by rw [List.getD_eq_getElem?_getD, List.getElem?_eq_getElem (by rw [HMN.out]; exact hkm)]; rfl
    have cm := (OI.at0 HM.out).1 _ _ hmg
    have fm := (OI.at0 HM.out).2.1 (k % mn)
    have hmnz : ¬ mn = 0 := by omega
    have hkI : ((k % mn : Nat) : Int) < (mn : Int) := by omega
    have HMG := Lib.hid hmg
    clear hm hmg hidx hk0
    generalize hkk : k % mn = kk at *
    clear hkk
    go_enter Try.func79, Try.ntmps79
    go_wp2_with fail
    obtain ⟨d0, d1, d2, d3⟩ := cd_cells w ⟨8, a, b, c⟩ 68
    simp only at d0 d1 d2 d3
    have hX := Ext.alloc w (.cells #[.int .i64 8, .int .i64 a, .int .i64 b, .int .i64 c] 68)
    have hO := HX0.out.alloc (.cells #[.int .i64 8, .int .i64 a, .int .i64 b, .int .i64 c] 68)
    replace ca := hX.cell ca
    replace cb := hX.cell cb
    replace cc := hX.cell cc
    have HR2 := Lib.hid (OR.ext HR.out hX)
    have HM2 := Lib.hid (OR.ext HM.out hX)
    replace fa := (OI.at0 HR2.out).2.1 a
    replace cm := hX.cell cm
    replace fm := (OI.at0 HM2.out).2.1 kk
    generalize w.alloc (.cells #[.int .i64 8, .int .i64 a, .int .i64 b, .int .i64 c] 68) = W at *
    have HO := Lib.hid hO
    clear hX hO
    go_still_tail 15, (by kernel_rfl)
    clear hmod hwr hmnz
    go_wp2
    go_end0
    have e : simp1 ⟨8, a, b, c⟩ id r m = (r.set a (m.getD kk 0), m) := by simp only [simp1]; rw [HIX.out]; rfl
    refine ⟨rfl, ?_⟩
    unfold Simp1
    rw [e]
    exact ⟨OR.drew ((OI.at0 HR2.out).2.2 a (m.getD kk 0)), OR.drew (OR.set_other HM2.out (p := ⟨rb, a, none⟩) HO1.out _), (HO.out.set1 _ _).drew⟩
  · -- op 9
    have lb : b ≤ 3 := by have := hb2 (by omega); omega
    have b4 : (b : Int) < 4 := by omega
    have cb := (OI.at0 HR.out).1 b _ (rg_get HRL.out lb)
    clear hb2
    obtain ⟨k, hk0⟩ := Int.eq_ofNat_of_zero_le wb.1
    have hkm : k % mn < mn := Nat.mod_lt _ (by omega)
    have hmod : Int.tmod (rg r b) (mn : Int) = ((k % mn : Nat) : Int) := by rw [hk0, Int.tmod_eq_emod_of_nonneg (by omega)]; omega
    have hwr : IntKind.i64.wrap (Int.tmod (rg r b) (mn : Int)) = ((k % mn : Nat) : Int) := by rw [hmod]; exact IntWalk.i64_in _ (by omega)
    have hidx : (rg r b % (m.length : Int)).toNat = k % mn := by rw [HMN.out, hk0]; omega
    have HIX := Lib.hid hidx
    have hmg : m[k % mn]? = some (m.getD (k % mn) 0) := by rw [List.getD_eq_getElem?_getD, List.getElem?_eq_getElem (by rw [HMN.out]; exact hkm)]; rfl
    have cm := (OI.at0 HM.out).1 _ _ hmg
    have fm := (OI.at0 HM.out).2.1 (k % mn)
    have hmnz : ¬ mn = 0 := by omega
    have hkI : ((k % mn : Nat) : Int) < (mn : Int) := by omega
    have HMG := Lib.hid hmg
    clear hm hmg hidx hk0
    generalize hkk : k % mn = kk at *
    clear hkk
    go_enter Try.func79, Try.ntmps79
    go_wp2_with fail
    obtain ⟨d0, d1, d2, d3⟩ := cd_cells w ⟨9, a, b, c⟩ 68
    simp only at d0 d1 d2 d3
    have hX := Ext.alloc w (.cells #[.int .i64 9, .int .i64 a, .int .i64 b, .int .i64 c] 68)
    have hO := HX0.out.alloc (.cells #[.int .i64 9, .int .i64 a, .int .i64 b, .int .i64 c] 68)
    replace ca := hX.cell ca
    replace cb := hX.cell cb
    replace cc := hX.cell cc
    have HR2 := Lib.hid (OR.ext HR.out hX)
    have HM2 := Lib.hid (OR.ext HM.out hX)
    replace fa := (OI.at0 HR2.out).2.1 a
    replace cm := hX.cell cm
    replace fm := (OI.at0 HM2.out).2.1 kk
    generalize w.alloc (.cells #[.int .i64 9, .int .i64 a, .int .i64 b, .int .i64 c] 68) = W at *
    have HO := Lib.hid hO
    clear hX hO
    go_still_tail 15, (by kernel_rfl)
    clear hmod hwr hmnz
    go_wp2
    go_end0
    have e : simp1 ⟨9, a, b, c⟩ id r m = (r, m.set kk (rg r a)) := by simp only [simp1]; rw [HIX.out]; rfl
    refine ⟨rfl, ?_⟩
    unfold Simp1
    rw [e]
    exact ⟨OR.drew (OR.set_other HR2.out (p := ⟨mb, kk, none⟩) HO2.out _), OR.drew ((OI.at0 HM2.out).2.2 kk (rg r a)), (HO.out.set2 _ _).drew⟩
  · clear hb2 hm
    go_enter Try.func79, Try.ntmps79
    go_wp2
    go_end0
    exact ⟨rfl, OR.alloc HR.out _, OR.alloc HM.out _, HX0.out.alloc _⟩

end Go.Proofs.Ytelbfeidpcojmaa
