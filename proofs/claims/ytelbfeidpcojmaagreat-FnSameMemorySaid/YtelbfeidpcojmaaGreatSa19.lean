/- Part 19 of what the claim needs. -/
import Derived.Test.YtelbfeidpcojmaaGreatSa7
import Derived.Test.YtelbfeidpcojmaaGreatSa12
import Derived.Test.YtelbfeidpcojmaaGreatSa18
namespace Go.Proofs.YtelbfeidpcojmaaGreat
open Go.RowKit
set_option linter.unusedVariables false
set_option linter.unusedSimpArgs false

/-! ### One instruction of two lanes -/
theorem simp1_mem {x : Cd} {id : Nat} {r m : List Int} (h : (x.op == 9) = false) : (simp1 x id r m).2 = m := by
  unfold simp1
  repeat' split
  all_goals first | rfl | (rename_i h9; rw [h] at h9; cases h9)
theorem simp1_regs {x : Cd} {id : Nat} {r m m' : List Int} (h : (x.op == 8) = false) : (simp1 x id r m).1 = (simp1 x id r m').1 := by
  unfold simp1
  repeat' split
  all_goals first | rfl | (rename_i h9; rw [h] at h9; cases h9)
theorem simp1_load {x : Cd} {id : Nat} {r m : List Int} (h : x.op = 8) : simp1 x id r m = (r.set x.a.toNat (m.getD (rg r x.b % m.length).toNat 0), m) := by
  simp [simp1, h]
theorem simp1_store {x : Cd} {id : Nat} {r m : List Int} (h : x.op = 9) : simp1 x id r m = (r, m.set (rg r x.b % m.length).toNat (rg r x.a)) := by
  simp [simp1, h]
/-- The cell of an instruction that loads or stores. -/
def cellN (x : Cd) (r : List Int) (len : Nat) : Nat := (rg r x.b % len).toNat
/-- Two instructions of two lanes touch one cell, and one of them writes. -/
def touchB (x y : Cd) (r r' : List Int) (len : Nat) : Bool := memOp x && memOp y && (cellN x r len == cellN y r' len) && (x.op == 9 || y.op == 9)
theorem simp_regs_comm {x y : Cd} {i j : Nat} {r r' m : List Int} (h : touchB x y r r' m.length = false) : (simp1 y j r' (simp1 x i r m).2).1 = (simp1 y j r' m).1 := by
  cases hx : x.op == 9 with
  | false => rw [simp1_mem hx]
  | true =>
    cases hy : y.op == 8 with
    | false => exact simp1_regs hy
    | true =>
      have hx' : x.op = 9 := by simpa using hx
      have hy' : y.op = 8 := by simpa using hy
      have hne : (rg r x.b % m.length).toNat ≠ (rg r' y.b % m.length).toNat := by
        intro e
        simp only [touchB, memOp, cellN, hx, hy, e] at h
        simp at h
      rw [simp1_load hy', simp1_load hy', simp1_store hx']
      simp only [List.length_set, List.getD_eq_getElem?_getD, List.getElem?_set_ne hne]
theorem simp_mem_comm {x y : Cd} {i j : Nat} {r r' m : List Int} (h : touchB x y r r' m.length = false) : (simp1 y j r' (simp1 x i r m).2).2 = (simp1 x i r (simp1 y j r' m).2).2 := by
  cases hx : x.op == 9 with
  | false => rw [simp1_mem hx, simp1_mem hx]
  | true =>
    cases hy : y.op == 9 with
    | false => rw [simp1_mem hy, simp1_mem hy]
    | true =>
      have hx' : x.op = 9 := by simpa using hx
      have hy' : y.op = 9 := by simpa using hy
      have hne : (rg r x.b % m.length).toNat ≠ (rg r' y.b % m.length).toNat := by
        intro e
        simp only [touchB, memOp, cellN, hx, hy, e] at h
        simp at h
      rw [simp1_store hx', simp1_store hy', simp1_store hy', simp1_store hx']
      simp only [List.length_set]
      exact List.set_comm _ _ hne
theorem touch_symm {x y : Cd} {r r' : List Int} {n : Nat} (h : touchB x y r r' n = false) : touchB y x r' r n = false := by
  rw [← h, Bool.eq_iff_iff]
  simp only [touchB, Bool.and_eq_true, Bool.or_eq_true, beq_iff_eq]
  constructor <;> (rintro ⟨⟨⟨a, b⟩, c⟩, d⟩; exact ⟨⟨⟨b, a⟩, c.symm⟩, d.symm⟩)

/-! ### Runs lane by lane -/
def step1 (l : List Cd) (c : Cw) (k : Nat) : Cw := passC l (stepAt l c k)
def accAt (l : List Cd) (c : Cw) (k ph : Nat) : List Acc :=
  if memOp (cdAt l (c.lane k).pos) then [⟨k, cellN (cdAt l (c.lane k).pos) (c.lane k).regs c.mem.length, (cdAt l (c.lane k).pos).op == 9, ph⟩] else []
/-- The phase behind a step: one more if a barrier is passed. -/
def phF (l : List Cd) (c : Cw) (ph : Nat) : Nat := if c.ls.any (goesL l) then ph else if c.ls.any (fun s => s.waits) then ph + 1 else ph
def linC (l : List Cd) : Cw → List Nat → Cw
  | c, [] => c
  | c, k :: ks => linC l (step1 l c k) ks
def linOk (l : List Cd) : Cw → List Nat → Prop
  | _, [] => True
  | c, k :: ks => k < c.ls.length ∧ goesL l (c.lane k) = true ∧ linOk l (step1 l c k) ks
def linP (l : List Cd) : Cw → Nat → List Nat → Nat
  | _, ph, [] => ph
  | c, ph, k :: ks => linP l (step1 l c k) (phF l (stepAt l c k) ph) ks
def linA (l : List Cd) : Cw → Nat → List Nat → List Acc
  | _, _, [] => []
  | c, ph, k :: ks => accAt l c k ph ++ linA l (step1 l c k) (phF l (stepAt l c k) ph) ks
theorem linC_append (l : List Cd) : ∀ (a : List Nat) (c : Cw) (b : List Nat), linC l c (a ++ b) = linC l (linC l c a) b
  | [], _, _ => rfl
  | k :: a, c, b => linC_append l a (step1 l c k) b
theorem linOk_append {l : List Cd} : ∀ (a : List Nat) (c : Cw) (b : List Nat), linOk l c (a ++ b) ↔ linOk l c a ∧ linOk l (linC l c a) b
  | [], _, _ => by simp [linOk, linC]
  | k :: a, c, b => by
    simp only [List.cons_append, linOk, linC, linOk_append a (step1 l c k) b, and_assoc]
theorem linP_append (l : List Cd) : ∀ (a : List Nat) (c : Cw) (ph : Nat) (b : List Nat), linP l c ph (a ++ b) = linP l (linC l c a) (linP l c ph a) b
  | [], _, _, _ => rfl
  | k :: a, c, ph, b => linP_append l a (step1 l c k) _ b
theorem linA_append (l : List Cd) : ∀ (a : List Nat) (c : Cw) (ph : Nat) (b : List Nat), linA l c ph (a ++ b) = linA l c ph a ++ linA l (linC l c a) (linP l c ph a) b
  | [], _, _, _ => by simp [linA, linC, linP]
  | k :: a, c, ph, b => by
    simp only [List.cons_append, linA, linC, linP, linA_append l a (step1 l c k) _ b, List.append_assoc]

theorem set_len (l : List Cd) (c : Cw) (k : Nat) : (stepAt l c k).ls.length = c.ls.length := by simp [stepAt]
theorem pass_len (l : List Cd) (c : Cw) : (passC l c).ls.length = c.ls.length := by unfold passC; split <;> simp
theorem step1_len (l : List Cd) (c : Cw) (k : Nat) : (step1 l c k).ls.length = c.ls.length := by unfold step1; rw [pass_len, set_len]
theorem linC_len (l : List Cd) : ∀ (a : List Nat) (c : Cw), (linC l c a).ls.length = c.ls.length
  | [], _ => rfl
  | k :: a, c => by rw [linC, linC_len l a, step1_len]
theorem stepAt_mlen (l : List Cd) (c : Cw) (k : Nat) : (stepAt l c k).mem.length = c.mem.length := (simp1_len (cdAt l (c.lane k).pos) k (c.lane k).regs c.mem).2
/-- A lane that goes, of the lanes there are. -/
def goK (l : List Cd) (c : Cw) (k : Nat) : Prop := k < c.ls.length ∧ goesL l (c.lane k) = true
theorem lane_get {c : Cw} {k : Nat} (hk : k < c.ls.length) : c.ls[k]? = some (c.lane k) := by simp [Cw.lane, List.getD_eq_getElem?_getD, hk]
theorem lane_eq {c : Cw} {k : Nat} (hk : k < c.ls.length) : c.lane k = c.ls[k] := by simp [Cw.lane, List.getD_eq_getElem?_getD, hk]
theorem any_of_go {l : List Cd} {c : Cw} {k : Nat} (h : goK l c k) : c.ls.any (goesL l) = true := by
  rw [List.any_eq_true]
  exact ⟨_, List.mem_of_getElem? (lane_get h.1), h.2⟩
theorem goK_step {l : List Cd} {c : Cw} {k j : Nat} (hne : k ≠ j) (h : goK l c k) : goK l (stepAt l c j) k := ⟨by rw [set_len]; exact h.1, by rw [lane_stepAt hne]; exact h.2⟩
theorem pass_goK {l : List Cd} {c : Cw} {k : Nat} (h : goK l c k) : passC l c = c := by unfold passC; rw [if_pos (any_of_go h)]
theorem phF_go {l : List Cd} {c : Cw} {k : Nat} (h : goK l c k) (ph : Nat) : phF l c ph = ph := by unfold phF; rw [if_pos (any_of_go h)]
theorem step1_go {l : List Cd} {c : Cw} {k j : Nat} (hne : k ≠ j) (h : goK l c k) : step1 l c j = stepAt l c j := pass_goK (goK_step hne h)

/-! ### Two lanes -/
def clB (a b : Acc) : Bool := a.ph == b.ph && a.who != b.who && a.cell == b.cell && (a.wr || b.wr)
def RF (A : List Acc) : Prop := ∀ a ∈ A, ∀ b ∈ A, clB a b = false
theorem RF.sub {A B : List Acc} (h : RF A) (hs : ∀ a ∈ B, a ∈ A) : RF B := fun a ha b hb => h a (hs a ha) b (hs b hb)
theorem touch_of {l : List Cd} {c : Cw} {i j ph : Nat} (hne : i ≠ j) (h : RF (accAt l c i ph ++ accAt l c j ph)) :
    touchB (cdAt l (c.lane i).pos) (cdAt l (c.lane j).pos) (c.lane i).regs (c.lane j).regs c.mem.length = false := by
  cases h1 : memOp (cdAt l (c.lane i).pos) with
  | false => simp [touchB, h1]
  | true =>
    cases h2 : memOp (cdAt l (c.lane j).pos) with
    | false => simp [touchB, h2]
    | true =>
      have e1 : accAt l c i ph = [⟨i, cellN (cdAt l (c.lane i).pos) (c.lane i).regs c.mem.length, (cdAt l (c.lane i).pos).op == 9, ph⟩] := by unfold accAt; rw [if_pos h1]
      have e2 : accAt l c j ph = [⟨j, cellN (cdAt l (c.lane j).pos) (c.lane j).regs c.mem.length, (cdAt l (c.lane j).pos).op == 9, ph⟩] := by unfold accAt; rw [if_pos h2]
      rw [e1, e2] at h
      have h3 := h _ (List.mem_append_left _ List.mem_cons_self) _ (List.mem_append_right _ List.mem_cons_self)
      have h4 : (i != j) = true := by simpa using hne
      simp only [clB, beq_self_eq_true, h4, Bool.true_and] at h3
      simp only [touchB, h1, h2, Bool.true_and]
      exact h3
theorem acc_step {l : List Cd} {c : Cw} {k j : Nat} (hne : k ≠ j) (ph : Nat) : accAt l (stepAt l c j) k ph = accAt l c k ph := by
  unfold accAt
  rw [lane_stepAt hne, stepAt_mlen]
theorem stepAt_comm {l : List Cd} {c : Cw} {i j : Nat} (hne : i ≠ j) (h : touchB (cdAt l (c.lane i).pos) (cdAt l (c.lane j).pos) (c.lane i).regs (c.lane j).regs c.mem.length = false) :
    stepAt l (stepAt l c i) j = stepAt l (stepAt l c j) i := by
  have e1 : (stepAt l c i).lane j = c.lane j := lane_stepAt (fun e => hne e.symm)
  have e2 : (stepAt l c j).lane i = c.lane i := lane_stepAt hne
  have r1 := simp_regs_comm (i := i) (j := j) h
  have r2 := simp_regs_comm (i := j) (j := i) (touch_symm h)
  have m1 := simp_mem_comm (i := i) (j := j) h
  have d1 : stepAt l (stepAt l c i) j = ⟨(c.ls.set i (stepL l i (c.lane i) c.mem).1).set j (stepL l j (c.lane j) (stepL l i (c.lane i) c.mem).2).1, (stepL l j (c.lane j) (stepL l i (c.lane i) c.mem).2).2⟩ := by
    conv => lhs; unfold stepAt
    rw [show ((⟨c.ls.set i (stepL l i (c.lane i) c.mem).1, (stepL l i (c.lane i) c.mem).2⟩ : Cw).lane j) = c.lane j from e1]
  have d2 : stepAt l (stepAt l c j) i = ⟨(c.ls.set j (stepL l j (c.lane j) c.mem).1).set i (stepL l i (c.lane i) (stepL l j (c.lane j) c.mem).2).1, (stepL l i (c.lane i) (stepL l j (c.lane j) c.mem).2).2⟩ := by
    conv => lhs; unfold stepAt
    rw [show ((⟨c.ls.set j (stepL l j (c.lane j) c.mem).1, (stepL l j (c.lane j) c.mem).2⟩ : Cw).lane i) = c.lane i from e2]
  rw [d1, d2]
  have s1 : (stepL l j (c.lane j) (stepL l i (c.lane i) c.mem).2).1 = (stepL l j (c.lane j) c.mem).1 := by
    simp only [stepL, r1]
  have s2 : (stepL l i (c.lane i) (stepL l j (c.lane j) c.mem).2).1 = (stepL l i (c.lane i) c.mem).1 := by
    simp only [stepL, r2]
  have s3 : (stepL l j (c.lane j) (stepL l i (c.lane i) c.mem).2).2 = (stepL l i (c.lane i) (stepL l j (c.lane j) c.mem).2).2 := by
    simp only [stepL, m1]
  rw [s1, s2, s3, List.set_comm _ _ hne]
/-- Two steps of two lanes that go, exchanged. -/
theorem swap2 {l : List Cd} {c : Cw} {i j : Nat} (ph : Nat) (hne : i ≠ j) (hi : goK l c i) (hj : goK l c j) (h : RF (accAt l c i ph ++ accAt l c j ph)) :
    step1 l (step1 l c i) j = step1 l (step1 l c j) i ∧ goK l (step1 l c i) j ∧ goK l (step1 l c j) i ∧
    phF l (stepAt l c i) ph = ph ∧ phF l (stepAt l c j) ph = ph ∧ phF l (stepAt l (step1 l c i) j) ph = phF l (stepAt l (step1 l c j) i) ph ∧
    accAt l (step1 l c i) j ph = accAt l c j ph ∧ accAt l (step1 l c j) i ph = accAt l c i ph := by
  have hne' : j ≠ i := fun e => hne e.symm
  rw [step1_go hne' hj, step1_go hne hi]
  have hc := stepAt_comm hne (touch_of hne h)
  exact ⟨by unfold step1; rw [hc], goK_step hne' hj, goK_step hne hi, phF_go (goK_step hne' hj) ph, phF_go (goK_step hne hi) ph, by rw [hc], acc_step hne' ph, acc_step hne ph⟩

/-- The first step of a lane that goes may come first of all. -/
theorem front {l : List Cd} {k : Nat} : ∀ (a : List Nat) (c : Cw) (ph : Nat) (b : List Nat), goK l c k → k ∉ a → linOk l c (a ++ k :: b) → RF (linA l c ph (a ++ k :: b)) →
    linOk l c (k :: (a ++ b)) ∧ linC l c (k :: (a ++ b)) = linC l c (a ++ k :: b) ∧ (∀ x, x ∈ linA l c ph (k :: (a ++ b)) ↔ x ∈ linA l c ph (a ++ k :: b))
  | [], c, ph, b, _, _, hok, _ => ⟨hok, rfl, fun _ => Iff.rfl⟩
  | j :: a, c, ph, b, hk, hna, hok, hrf => by
    have hne : k ≠ j := fun e => hna (by rw [e]; exact List.mem_cons_self)
    have hna' : k ∉ a := fun h => hna (List.mem_cons_of_mem _ h)
    obtain ⟨hj1, hj2, hok'⟩ := hok
    have hj : goK l c j := ⟨hj1, hj2⟩
    have e1 : step1 l c j = stepAt l c j := step1_go hne hk
    have hk1 : goK l (step1 l c j) k := by rw [e1]; exact goK_step hne hk
    have hph : phF l (stepAt l c j) ph = ph := phF_go (goK_step hne hk) ph
    have eA : linA l c ph (j :: a ++ k :: b) = accAt l c j ph ++ linA l (step1 l c j) ph (a ++ k :: b) := by
      show accAt l c j ph ++ linA l (step1 l c j) (phF l (stepAt l c j) ph) (a ++ k :: b) = _
      rw [hph]
    have hrf' : RF (linA l (step1 l c j) ph (a ++ k :: b)) := hrf.sub (fun x hx => by rw [eA]; exact List.mem_append_right _ hx)
    obtain ⟨g1, g2, g3⟩ := front a (step1 l c j) ph b hk1 hna' hok' hrf'
    obtain ⟨-, -, g1'⟩ := g1
    have hak : accAt l (step1 l c j) k ph = accAt l c k ph := by rw [e1]; exact acc_step hne ph
    have hrf2 : RF (accAt l c j ph ++ accAt l c k ph) := hrf.sub (fun x hx => by
      rw [eA]
      rcases List.mem_append.1 hx with hx | hx
      · exact List.mem_append_left _ hx
      · refine List.mem_append_right _ ((g3 x).1 ?_)
        show x ∈ accAt l (step1 l c j) k ph ++ _
        rw [hak]
        exact List.mem_append_left _ hx)
    obtain ⟨s1, s2, s3, s4, s5, s6, s7, s8⟩ := swap2 ph (fun e => hne e.symm) hj hk hrf2
    refine ⟨⟨hk.1, hk.2, s3.1, s3.2, by rw [← s1]; exact g1'⟩, ?_, fun x => ?_⟩
    · show linC l (step1 l (step1 l c k) j) (a ++ b) = linC l (step1 l c j) (a ++ k :: b)
      rw [← g2, ← s1]; rfl
    · rw [eA, List.mem_append, ← g3 x]
      show x ∈ accAt l c k ph ++ (accAt l (step1 l c k) j (phF l (stepAt l c k) ph) ++ linA l (step1 l (step1 l c k) j) (phF l (stepAt l (step1 l c k) j) (phF l (stepAt l c k) ph)) (a ++ b)) ↔
        x ∈ accAt l c j ph ∨ x ∈ accAt l (step1 l c j) k ph ++ linA l (step1 l (step1 l c j) k) (phF l (stepAt l (step1 l c j) k) ph) (a ++ b)
      rw [s5, s8, s7, ← s1, ← s6]
      simp only [List.mem_append]
      constructor
      · rintro (h | h | h)
        · exact .inr (.inl h)
        · exact .inl h
        · exact .inr (.inr h)
      · rintro (h | h | h)
        · exact .inr (.inl h)
        · exact .inl h
        · exact .inr (.inr h)

theorem pass_pos (l : List Cd) (c : Cw) (k : Nat) : ((passC l c).lane k).pos = (c.lane k).pos := by
  unfold passC
  split
  · rfl
  · by_cases hk : k < c.ls.length
    · simp [Cw.lane, List.getD_eq_getElem?_getD, hk]
    · simp [Cw.lane, List.getD_eq_getElem?_getD, hk]
theorem linC_pos {l : List Cd} {k : Nat} : ∀ (a : List Nat) (c : Cw), k ∉ a → ((linC l c a).lane k).pos = (c.lane k).pos
  | [], _, _ => rfl
  | j :: a, c, h => by
    rw [linC, linC_pos a (step1 l c j) (fun h' => h (List.mem_cons_of_mem _ h'))]
    unfold step1
    rw [pass_pos, lane_stepAt (fun e => h (by rw [e]; exact List.mem_cons_self))]
theorem over_lane {l : List Cd} {c : Cw} (h : overC l c = true) {k : Nat} (hk : k < c.ls.length) : l.length ≤ (c.lane k).pos := by
  unfold overC at h
  rw [List.all_eq_true] at h
  have := h _ (List.mem_of_getElem? (lane_get hk))
  simpa using this
/-- Every complete run comes to the state that a safe one comes to. -/
theorem conf {l : List Cd} : ∀ (t : List Nat) (c : Cw) (ph : Nat) (s : List Nat), linOk l c s → overC l (linC l c s) = true → RF (linA l c ph s) → linOk l c t → overC l (linC l c t) = true → linC l c t = linC l c s
  | [], c, ph, s, hs, ho, hrf, ht, hot => by
    cases s with
    | nil => rfl
    | cons k s =>
      have := over_lane hot hs.1
      have := (goes_pos hs.2.1).2
      simp only [linC] at *
      omega
  | k :: t, c, ph, s, hs, ho, hrf, ht, hot => by
    obtain ⟨hk1, hk2, ht'⟩ := ht
    have hmem : k ∈ s := Classical.byContradiction fun hn => by
      have h1 := linC_pos (l := l) s c hn
      have h2 := over_lane ho (k := k) (by rw [linC_len]; exact hk1)
      have h3 := (goes_pos hk2).2
      omega
    obtain ⟨a, b, hab, hna⟩ := List.eq_append_cons_of_mem hmem
    subst hab
    obtain ⟨g1, g2, g3⟩ := front a c ph b ⟨hk1, hk2⟩ hna hs hrf
    rw [← g2]
    show linC l (step1 l c k) t = linC l (step1 l c k) (a ++ b)
    refine conf t (step1 l c k) (phF l (stepAt l c k) ph) (a ++ b) g1.2.2 ?_ ?_ ht' hot
    · rw [← g2] at ho; exact ho
    · exact hrf.sub (fun x hx => (g3 x).1 (List.mem_append_right _ hx))


/-! ### Groups of lanes -/
/-- Several lanes that go, one after the other. -/
def accG (l : List Cd) : Cw → Nat → List Nat → List Acc
  | _, _, [] => []
  | c, ph, k :: ks => accAt l c k ph ++ accG l (stepAt l c k) ph ks
theorem lin_group {l : List Cd} : ∀ (ks : List Nat) (c : Cw) (ph : Nat), ks ≠ [] → ks.Nodup → (∀ k ∈ ks, goK l c k) →
    linOk l c ks ∧ linC l c ks = passC l (ks.foldl (stepAt l) c) ∧ linP l c ph ks = phF l (ks.foldl (stepAt l) c) ph ∧ linA l c ph ks = accG l c ph ks
  | [], _, _, h, _, _ => absurd rfl h
  | [k], c, ph, _, _, hg => by
    have := hg k List.mem_cons_self
    exact ⟨⟨this.1, this.2, trivial⟩, rfl, rfl, rfl⟩
  | k :: j :: ks, c, ph, _, hn, hg => by
    obtain ⟨h1, h2⟩ := List.nodup_cons.1 hn
    have hk := hg k List.mem_cons_self
    have hj := hg j (List.mem_cons_of_mem _ List.mem_cons_self)
    have hjk : j ≠ k := fun e => h1 (by rw [e]; exact List.mem_cons_self)
    have e1 : step1 l c k = stepAt l c k := step1_go hjk hj
    have e2 : phF l (stepAt l c k) ph = ph := phF_go (goK_step hjk hj) ph
    obtain ⟨g1, g2, g3, g4⟩ := lin_group (j :: ks) (stepAt l c k) ph (by simp) h2 (fun i hi => goK_step (fun e => h1 (by rw [← e]; exact hi)) (hg i (List.mem_cons_of_mem _ hi)))
    refine ⟨⟨hk.1, hk.2, by rw [e1]; exact g1⟩, ?_, ?_, ?_⟩
    · show linC l (step1 l c k) (j :: ks) = _
      rw [e1, g2]; rfl
    · show linP l (step1 l c k) (phF l (stepAt l c k) ph) (j :: ks) = _
      rw [e1, e2, g3]; rfl
    · show accAt l c k ph ++ linA l (step1 l c k) (phF l (stepAt l c k) ph) (j :: ks) = _
      rw [e1, e2, g4]; rfl
/-- A run by a schedule is a run lane by lane. -/
theorem lin_run {l : List Cd} (hp : pv l = true) {n P : Nat} (n8 : n ≤ 8) {sch : Nat → List Nat} (hs : SchOk n P sch) {c : Cw} (h : CwOk l n c) (hn : NrmC l c) : ∀ T, ∃ t, linOk l c t ∧ linC l c t = runC l sch c T
  | 0 => ⟨[], trivial, rfl⟩
  | T + 1 => by
    obtain ⟨t, h1, h2⟩ := lin_run hp n8 hs h hn T
    obtain ⟨k1, k2, -⟩ := run_ok' hp n8 hs h hn T
    by_cases he : amongL l (runC l sch c T) (sch T) = []
    · refine ⟨t, h1, h2.trans ?_⟩
      show _ = stepG l (runC l sch c T) (sch T)
      unfold stepG
      rw [he]
      simp only [List.foldl_nil]
      unfold passC
      split
      · rfl
      · rename_i hg
        rcases k2 with k2 | ⟨-, k2⟩
        · exact absurd k2 hg
        · generalize runC l sch c T = d at *
          have : d.ls.map (fun s => { s with waits := false }) = d.ls := by
            conv => rhs; rw [← List.map_id d.ls]
            refine List.map_congr_left fun s hs => ?_
            have := k2 s hs
            cases s
            simp only at this
            subst this
            rfl
          rw [this]
    · have hg : ∀ k ∈ amongL l (runC l sch c T) (sch T), goK l (runC l sch c T) k := fun k hk => by
        obtain ⟨a1, a2⟩ := among_sub hk
        exact ⟨by rw [k1.len]; exact hs.lt T k a1, a2⟩
      obtain ⟨g1, g2, -, -⟩ := lin_group (l := l) _ (runC l sch c T) 0 he ((hs.nd T).filter _) hg
      refine ⟨t ++ amongL l (runC l sch c T) (sch T), (linOk_append _ _ _).2 ⟨h1, by rw [h2]; exact g1⟩, ?_⟩
      rw [linC_append, h2, g2]
      rfl

/-! ### No lane waits -/
def nowait (c : Cw) : Prop := ∀ s ∈ c.ls, s.waits = false
theorem nowait_lane {c : Cw} (h : nowait c) {k : Nat} (hk : k < c.ls.length) : (c.lane k).waits = false := h _ (List.mem_of_getElem? (lane_get hk))
theorem nowait_of {c : Cw} (h : ∀ k, k < c.ls.length → (c.lane k).waits = false) : nowait c := fun s hs => by
  obtain ⟨k, hk, rfl⟩ := List.getElem_of_mem hs
  have := h k hk
  rw [lane_eq hk] at this
  exact this
theorem map_free {c : Cw} (h : nowait c) : c.ls.map (fun s => { s with waits := false }) = c.ls := by
  conv => rhs; rw [← List.map_id c.ls]
  refine List.map_congr_left fun s hs => ?_
  have := h s hs
  cases s
  simp only at this
  subst this
  rfl
theorem pass_nowait {l : List Cd} {c : Cw} (h : nowait c) : passC l c = c := by
  unfold passC
  split
  · rfl
  · rw [map_free h]
theorem phF_nowait {l : List Cd} {c : Cw} (h : nowait c) (ph : Nat) : phF l c ph = ph := by
  unfold phF
  split
  · rfl
  · have : c.ls.any (fun s => s.waits) = false := by
      rw [List.any_eq_false]
      intro s hs
      rw [h s hs]
      simp
    rw [this]
    simp
theorem nowait_put {c : Cw} (h : nowait c) {k : Nat} {s : Ln} (hs : s.waits = false) : nowait (c.put k s) := fun t ht => by
  rcases List.mem_or_eq_of_mem_set ht with ht | rfl
  · exact h t ht
  · exact hs

/-! ### Lanes in lockstep and lanes of a crowd -/
structure LR2 (n : Nat) (s : LS) (c : Cw) : Prop where
  lenc : c.ls.length = n
  lens : s.regs.length = n
  mem : c.mem = s.mem
  regs : ∀ k, k < n → (c.lane k).regs = s.regs.getD k []
theorem LR2.beat {n : Nat} {s : LS} {c : Cw} (h : LR2 n s c) (p m : Nat) : LR2 n (beat p m s) c := ⟨h.lenc, h.lens, h.mem, h.regs⟩
theorem stepAt_lane {l : List Cd} {c : Cw} {k : Nat} (hk : k < c.ls.length) : (stepAt l c k).lane k = (stepL l k (c.lane k) c.mem).1 := by
  simp [stepAt, Cw.lane, List.getD_eq_getElem?_getD, hk]
theorem acc_exec {l : List Cd} {n : Nat} {s : LS} {c : Cw} (h : LR2 n s c) {k : Nat} (hk : k < n) {x : Cd} (hx : cdAt l (c.lane k).pos = x) : (exec1 x s k).accs = s.accs ++ accAt l c k s.phase := by
  unfold accAt
  rw [hx]
  show (if memOp x then s.accs ++ [⟨k, (s.reg k x.b % s.mem.length).toNat, x.op == 9, s.phase⟩] else s.accs) = _
  split
  · unfold cellN LS.reg
    rw [h.regs k hk, h.mem]
  · simp
/-- Several lanes execute one instruction. -/
theorem exec_sim {l : List Cd} {n p : Nat} {x : Cd} (hx : cdAt l p = x) (h10 : x.op ≤ 10) : ∀ (ks : List Nat) (s : LS) (c : Cw), LR2 n s c → ks.Nodup → (∀ k ∈ ks, k < n ∧ (c.lane k).pos = p) →
    LR2 n (ks.foldl (exec1 x) s) (ks.foldl (stepAt l) c) ∧ (∀ k ∈ ks, ((ks.foldl (stepAt l) c).lane k).pos = p + 1 ∧ ((ks.foldl (stepAt l) c).lane k).turns = (c.lane k).turns ∧ ((ks.foldl (stepAt l) c).lane k).waits = (x.op == 10)) ∧
    (∀ k, k ∉ ks → (ks.foldl (stepAt l) c).lane k = c.lane k) ∧ (ks.foldl (exec1 x) s).accs = s.accs ++ accG l c s.phase ks ∧ (ks.foldl (exec1 x) s).phase = s.phase ∧ (ks.foldl (exec1 x) s).beats = s.beats
  | [], s, c, h, _, _ => ⟨h, fun k hk => absurd hk List.not_mem_nil, fun _ _ => rfl, by simp [accG], rfl, rfl⟩
  | k :: ks, s, c, h, hn, hk => by
    obtain ⟨hn1, hn2⟩ := List.nodup_cons.1 hn
    obtain ⟨hkn, hkp⟩ := hk k List.mem_cons_self
    have hkl : k < c.ls.length := by rw [h.lenc]; exact hkn
    have hxk : cdAt l (c.lane k).pos = x := by rw [hkp]; exact hx
    have hst : stepL l k (c.lane k) c.mem = (⟨(simp1 x k (c.lane k).regs c.mem).1, p + 1, (c.lane k).turns, x.op == 10⟩, (simp1 x k (c.lane k).regs c.mem).2) := by
      have e := next_op (l := l) (q := (c.lane k).pos) (r := (c.lane k).regs) (ts := (c.lane k).turns) (by rw [hxk]; exact h10)
      unfold stepL
      rw [e, hxk, hkp]
    have hL : (stepAt l c k).lane k = ⟨(simp1 x k (c.lane k).regs c.mem).1, p + 1, (c.lane k).turns, x.op == 10⟩ := by rw [stepAt_lane hkl, hst]
    have h1 : LR2 n (exec1 x s k) (stepAt l c k) := by
      refine ⟨by rw [set_len]; exact h.lenc, by simp [exec1, h.lens], ?_, fun j hj => ?_⟩
      · show (stepL l k (c.lane k) c.mem).2 = (simp1 x k (s.regs.getD k []) s.mem).2
        rw [hst, h.regs k hkn, h.mem]
      · by_cases e : j = k
        · subst e
          rw [hL]
          show _ = (s.regs.set j (simp1 x j (s.regs.getD j []) s.mem).1).getD j []
          have : j < s.regs.length := by rw [h.lens]; exact hj
          rw [List.getD_eq_getElem?_getD, List.getElem?_set_self this, h.regs j hj, h.mem]
          rfl
        · rw [lane_stepAt e, h.regs j hj]
          show _ = (s.regs.set k (simp1 x k (s.regs.getD k []) s.mem).1).getD j []
          rw [List.getD_eq_getElem?_getD, List.getD_eq_getElem?_getD, List.getElem?_set_ne (fun h => e h.symm)]
    obtain ⟨g1, g2, g3, g4, g5, g6⟩ := exec_sim hx h10 ks (exec1 x s k) (stepAt l c k) h1 hn2 (fun j hj => by
      have hjk : j ≠ k := fun e => hn1 (by rw [← e]; exact hj)
      rw [lane_stepAt hjk]
      exact hk j (List.mem_cons_of_mem _ hj))
    simp only [List.foldl_cons]
    refine ⟨g1, fun j hj => ?_, fun j hj => ?_, ?_, g5, g6⟩
    · rcases List.mem_cons.1 hj with e | hj'
      · subst e
        rw [g3 j hn1, hL]
        exact ⟨rfl, rfl, rfl⟩
      · have hjk : j ≠ k := fun e => hn1 (by rw [← e]; exact hj')
        have := g2 j hj'
        rw [lane_stepAt hjk] at this
        exact this
    · rw [g3 j (fun h => hj (List.mem_cons_of_mem _ h)), lane_stepAt (fun e => hj (by rw [e]; exact List.mem_cons_self))]
    · rw [g4, acc_exec h hkn hxk, List.append_assoc]
      rfl
/-- Several lanes go on to other places. -/
theorem move_sim {l : List Cd} {n p : Nat} (h10 : 10 < (cdAt l p).op) : ∀ (ks : List Nat) (c : Cw) (ph : Nat), c.ls.length = n → nowait c → p < l.length → ks.Nodup → (∀ k ∈ ks, k < n ∧ (c.lane k).pos = p) →
    linOk l c ks ∧ linP l c ph ks = ph ∧ linA l c ph ks = [] ∧ (linC l c ks).ls.length = n ∧ nowait (linC l c ks) ∧ (linC l c ks).mem = c.mem ∧
    (∀ k, ((linC l c ks).lane k).regs = (c.lane k).regs) ∧ (∀ k ∈ ks, (((linC l c ks).lane k).pos, ((linC l c ks).lane k).turns) = nextP l (c.lane k).regs p (c.lane k).turns) ∧ (∀ k, k ∉ ks → (linC l c ks).lane k = c.lane k)
  | [], c, ph, hl, hw, _, _, _ => ⟨trivial, rfl, rfl, hl, hw, rfl, fun _ => rfl, fun k hk => absurd hk List.not_mem_nil, fun _ _ => rfl⟩
  | k :: ks, c, ph, hl, hw, hpl, hn, hk => by
    obtain ⟨hn1, hn2⟩ := List.nodup_cons.1 hn
    obtain ⟨hkn, hkp⟩ := hk k List.mem_cons_self
    have hkl : k < c.ls.length := by rw [hl]; exact hkn
    have hm := stepAt_move (l := l) (c := c) (k := k) (by rw [hkp]; exact h10)
    have hw1 : nowait (stepAt l c k) := by rw [hm]; exact nowait_put hw rfl
    have e1 : step1 l c k = stepAt l c k := pass_nowait hw1
    have e2 : phF l (stepAt l c k) ph = ph := phF_nowait hw1 ph
    have hL : (stepAt l c k).lane k = ⟨(c.lane k).regs, (nextP l (c.lane k).regs p (c.lane k).turns).1, (nextP l (c.lane k).regs p (c.lane k).turns).2, false⟩ := by rw [hm, put_lane hkl, hkp]
    have hA : accAt l c k ph = [] := by
      unfold accAt
      rw [hkp]
      have h8 : ((cdAt l p).op == 8) = false := beq_eq_false_iff_ne.2 (by omega)
      have h9 : ((cdAt l p).op == 9) = false := beq_eq_false_iff_ne.2 (by omega)
      simp [memOp, h8, h9]
    have hmem : (stepAt l c k).mem = c.mem := by rw [hm]; rfl
    obtain ⟨g1, g2, g3, g4, g5, g6, g7, g8, g9⟩ := move_sim (n := n) h10 ks (stepAt l c k) ph ((set_len l c k).trans hl) hw1 hpl hn2 (fun j hj => by
      have hjk : j ≠ k := fun e => hn1 (by rw [← e]; exact hj)
      rw [lane_stepAt hjk]
      exact hk j (List.mem_cons_of_mem _ hj))
    simp only [linOk, linC, linP, linA, e1, e2, hA, List.nil_append]
    refine ⟨⟨hkl, ?_, g1⟩, g2, g3, g4, g5, g6.trans hmem, fun j => ?_, fun j hj => ?_, fun j hj => ?_⟩
    · simp [goesL, nowait_lane hw hkl, hkp, hpl]
    · rw [g7 j]
      by_cases e : j = k
      · subst e; rw [hL]
      · rw [lane_stepAt e]
    · rcases List.mem_cons.1 hj with e | hj'
      · subst e
        rw [g9 j hn1, hL]
      · have hjk : j ≠ k := fun e => hn1 (by rw [← e]; exact hj')
        have := g8 j hj'
        rw [lane_stepAt hjk] at this
        exact this
    · rw [g9 j (fun h => hj (List.mem_cons_of_mem _ h)), lane_stepAt (fun e => hj (by rw [e]; exact List.mem_cons_self))]

/-! ### Beats are only added -/
theorem turns_more {f : Nat → LS → LS} (hf : ∀ m s, ∃ q, (f m s).beats = s.beats ++ q) (a : Int) : ∀ (b m : Nat) (s : LS), ∃ q, (turnsOf f a b m s).beats = s.beats ++ q
  | 0, _, _ => ⟨[], by simp [turnsOf]⟩
  | b + 1, m, s => by
    obtain ⟨q1, h1⟩ := hf (onesOf m a s) s
    obtain ⟨q2, h2⟩ := turns_more hf a b (onesOf m a s) (f (onesOf m a s) s)
    exact ⟨q1 ++ q2, by simp only [turnsOf]; rw [h2, h1, List.append_assoc]⟩
theorem run_more (b : Blk) : ∀ (p m : Nat) (s : LS), ∃ q, (b.run p m s).beats = s.beats ++ q := by
  induction b with
  | nil => intro p m s; exact ⟨[], by simp [Blk.run]⟩
  | op x r ih =>
    intro p m s
    simp only [Blk.run]
    split
    · exact ⟨[], by simp⟩
    · obtain ⟨q, h⟩ := ih (p + 1) m (execM x m (beat p m s))
      exact ⟨(p, m) :: q, by rw [h, execM_beats]; simp [beat]⟩
  | iff a t r iht ihr =>
    intro p m s
    simp only [Blk.run]
    split
    · exact ⟨[], by simp⟩
    · obtain ⟨q1, h1⟩ := iht (p + 1) (onesOf m a s) (beat p m s)
      obtain ⟨q2, h2⟩ := ihr (p + t.flat.length + 2) m (t.run (p + 1) (onesOf m a s) (beat p m s))
      exact ⟨(p, m) :: (q1 ++ q2), by rw [h2, h1]; simp [beat]⟩
  | ife a t e r iht ihe ihr =>
    intro p m s
    simp only [Blk.run]
    split
    · exact ⟨[], by simp⟩
    · obtain ⟨q1, h1⟩ := iht (p + 1) (onesOf m a s) (beat p m s)
      obtain ⟨q2, h2⟩ := ihe (p + t.flat.length + 2) (mdiff m (onesOf m a s)) (t.run (p + 1) (onesOf m a s) (beat p m s))
      obtain ⟨q3, h3⟩ := ihr (p + t.flat.length + e.flat.length + 3) m (e.run (p + t.flat.length + 2) (mdiff m (onesOf m a s)) (t.run (p + 1) (onesOf m a s) (beat p m s)))
      exact ⟨(p, m) :: (q1 ++ (q2 ++ q3)), by rw [h3, h2, h1]; simp [beat]⟩
  | loop a c t r iht ihr =>
    intro p m s
    simp only [Blk.run]
    split
    · exact ⟨[], by simp⟩
    · obtain ⟨q1, h1⟩ := turns_more (f := fun m s => t.run (p + 1) m s) (fun m s => iht _ _ _) a c.toNat m (beat p m s)
      obtain ⟨q2, h2⟩ := ihr (p + t.flat.length + 2) m (turnsOf (fun m s => t.run (p + 1) m s) a c.toNat m (beat p m s))
      exact ⟨(p, m) :: (q1 ++ q2), by rw [h2, h1]; simp [beat]⟩
theorem split_append (l : List Cd) (n : Nat) (a b : List (Nat × Nat)) : splitB l n (a ++ b) = (splitB l n a || splitB l n b) := by simp [splitB]
theorem split_less {l : List Cd} {n : Nat} {a b : List (Nat × Nat)} (h : ∃ q, b = a ++ q) (hs : splitB l n b = false) : splitB l n a = false := by
  obtain ⟨q, rfl⟩ := h
  rw [split_append] at hs
  simp only [Bool.or_eq_false_iff] at hs
  exact hs.1

/-! ### A run in lockstep, lane by lane -/
/-- A part of a run: lane by lane in a crowd, and in lockstep. -/
def Seg (l : List Cd) (n : Nat) (s : LS) (c : Cw) (s' : LS) (c' : Cw) : Prop :=
  ∃ t, linOk l c t ∧ linC l c t = c' ∧ LR2 n s' c' ∧ nowait c' ∧ linP l c s.phase t = s'.phase ∧ s'.accs = s.accs ++ linA l c s.phase t
theorem Seg.refl {l : List Cd} {n : Nat} {s : LS} {c : Cw} (h : LR2 n s c) (hw : nowait c) : Seg l n s c s c := ⟨[], trivial, rfl, h, hw, rfl, by simp [linA]⟩
theorem Seg.trans {l : List Cd} {n : Nat} {s s1 s2 : LS} {c c1 c2 : Cw} (h : Seg l n s c s1 c1) (h' : Seg l n s1 c1 s2 c2) : Seg l n s c s2 c2 := by
  obtain ⟨t, a1, a2, a3, a4, a5, a6⟩ := h
  obtain ⟨t', b1, b2, b3, b4, b5, b6⟩ := h'
  subst a2
  refine ⟨t ++ t', (linOk_append _ _ _).2 ⟨a1, b1⟩, by rw [linC_append]; exact b2, b3, b4, by rw [linP_append, a5]; exact b5, by rw [b6, a6, linA_append, a5, List.append_assoc]⟩
theorem Seg.lr {l : List Cd} {n : Nat} {s s1 : LS} {c c1 : Cw} (h : Seg l n s c s1 c1) : LR2 n s1 c1 ∧ nowait c1 := by
  obtain ⟨t, -, -, a3, a4, -, -⟩ := h
  exact ⟨a3, a4⟩
/-- The lanes of mask m are at place e, with the turns that they had; the others are as they were. -/
def Came (n m e : Nat) (c c' : Cw) : Prop := (∀ k, k < n → m.testBit k = true → (c'.lane k).pos = e ∧ (c'.lane k).turns = (c.lane k).turns) ∧ (∀ k, k < n → m.testBit k = false → c'.lane k = c.lane k)
def SimP (l : List Cd) (n m e : Nat) (s s' : LS) (c : Cw) : Prop := ∃ c', Seg l n s c s' c' ∧ Came n m e c c'
theorem lanes_in {m n : Nat} (n8 : n ≤ 8) {k : Nat} (hk : k < n) : k ∈ lanesOf m ↔ m.testBit k = true := by
  rw [lanesOf_mem]
  exact ⟨fun h => h.2, fun h => ⟨by omega, h⟩⟩
theorem sim_op {l : List Cd} {n p m : Nat} (n8 : n ≤ 8) (hm : m < 2 ^ n) (h0 : m ≠ 0) {x : Cd} {r : List Cd} (hd : l.drop p = x :: r) (h10 : x.op ≤ 10) (h1 : 1 ≤ x.op) {s : LS} {c : Cw} (hR : LR2 n s c) (hw : nowait c)
    (hpos : ∀ k, k < n → m.testBit k = true → (c.lane k).pos = p) (hs : splitB l n (s.beats ++ [(p, m)]) = false) : SimP l n m (p + 1) s (execM x m (beat p m s)) c := by
  have hx := cdAt_drop hd
  have hpl := (drop_cons hd).2.2
  have hnd := lanes_nodup m
  have hks : ∀ k ∈ lanesOf m, k < n ∧ (c.lane k).pos = p := fun k hk => by
    have := lanesOf_lt hm hk
    exact ⟨this, hpos k this (lanesOf_mem.1 hk).2⟩
  have hgo : ∀ k ∈ lanesOf m, goK l c k := fun k hk => by
    obtain ⟨h1, h2⟩ := hks k hk
    have h1' : k < c.ls.length := by rw [hR.lenc]; exact h1
    exact ⟨h1', by simp [goesL, nowait_lane hw h1', h2, hpl]⟩
  have hne : lanesOf m ≠ [] := by
    obtain ⟨k, hk⟩ := Nat.exists_testBit_of_ne_zero h0
    have hkn : k < n := by
      rcases Nat.lt_or_ge k n with h | h
      · exact h
      · rw [testBit_high hm h] at hk; cases hk
    intro e
    have := (lanes_in n8 hkn).2 hk
    rw [e] at this
    cases this
  obtain ⟨g1, g2, g3, g4⟩ := lin_group (l := l) (lanesOf m) c s.phase hne hnd hgo
  obtain ⟨e1, e2, e3, e4, e5, e6⟩ := exec_sim hx h10 (lanesOf m) (beat p m s) c (hR.beat p m) hnd hks
  by_cases hb : x.op = 10
  · have hfull : m = 2 ^ n - 1 := by
      rw [splitB_snoc] at hs
      have ho : opAt l p = 10 := by rw [opAt_drop hd]; exact hb
      simp only [ho, Bool.or_eq_false_iff, beq_self_eq_true, Bool.true_and, Bool.not_eq_false', beq_iff_eq] at hs
      exact hs.2
    have hall : ∀ k, k < n → k ∈ lanesOf m := fun k hk => (lanes_in n8 hk).2 (by rw [hfull, Nat.testBit_two_pow_sub_one]; simp [hk])
    have hl : ((lanesOf m).foldl (stepAt l) c).ls.length = n := e1.lenc
    have hwt : ∀ k, k < n → (((lanesOf m).foldl (stepAt l) c).lane k).waits = true := fun k hk => by
      rw [(e2 k (hall k hk)).2.2, hb]; rfl
    have hng : ((lanesOf m).foldl (stepAt l) c).ls.any (goesL l) = false := by
      rw [List.any_eq_false]
      intro t ht
      obtain ⟨k, hk, rfl⟩ := List.getElem_of_mem ht
      have := hwt k (by omega)
      rw [lane_eq hk] at this
      simp [goesL, this]
    have hn1 : 0 < n := by
      rcases Nat.eq_zero_or_pos n with h | h
      · subst h; simp at hm; exact absurd hm h0
      · exact h
    have haw : ((lanesOf m).foldl (stepAt l) c).ls.any (fun s => s.waits) = true := by
      rw [List.any_eq_true]
      refine ⟨_, List.mem_of_getElem? (lane_get (c := (lanesOf m).foldl (stepAt l) c) (k := 0) (by omega)), hwt 0 hn1⟩
    have hph : phF l ((lanesOf m).foldl (stepAt l) c) s.phase = s.phase + 1 := by
      unfold phF
      rw [hng, haw]
      simp
    have hpl2 : ∀ k, k < n → (passC l ((lanesOf m).foldl (stepAt l) c)).lane k = { ((lanesOf m).foldl (stepAt l) c).lane k with waits := false } := fun k hk => by
      unfold passC
      rw [hng]
      have : k < ((lanesOf m).foldl (stepAt l) c).ls.length := by omega
      simp [Cw.lane, List.getD_eq_getElem?_getD, this]
    have hpm : (passC l ((lanesOf m).foldl (stepAt l) c)).mem = ((lanesOf m).foldl (stepAt l) c).mem := by
      unfold passC; rw [hng]; rfl
    have hex : execM x m (beat p m s) = { ((lanesOf m).foldl (exec1 x) (beat p m s)) with phase := ((lanesOf m).foldl (exec1 x) (beat p m s)).phase + 1 } := by
      unfold execM
      have : (x.op == 10) = true := by rw [hb]; rfl
      simp only [this, if_true]
    refine ⟨_, ⟨lanesOf m, g1, g2, ?_, ?_, ?_, ?_⟩, ?_, ?_⟩
    · rw [hex]
      exact ⟨by rw [pass_len]; exact e1.lenc, e1.lens, by rw [hpm]; exact e1.mem, fun k hk => by rw [hpl2 k hk]; exact e1.regs k hk⟩
    · exact nowait_of fun k hk => by rw [pass_len] at hk; rw [hpl2 k (by omega)]
    · rw [g3, hph, hex]
      show s.phase + 1 = ((lanesOf m).foldl (exec1 x) (beat p m s)).phase + 1
      rw [e5]; rfl
    · rw [g4, hex]
      exact e4
    · intro k hk hbit
      rw [hpl2 k hk]
      exact ⟨(e2 k (hall k hk)).1, (e2 k (hall k hk)).2.1⟩
    · intro k hk hbit
      rw [(lanes_in n8 hk).1 (hall k hk)] at hbit
      cases hbit
  · have hb' : (x.op == 10) = false := beq_eq_false_iff_ne.2 hb
    have hw2 : nowait ((lanesOf m).foldl (stepAt l) c) := nowait_of fun k hk => by
      have hk' : k < n := by rw [← e1.lenc]; exact hk
      by_cases hk2 : k ∈ lanesOf m
      · rw [(e2 k hk2).2.2]; exact hb'
      · rw [e3 k hk2]; exact nowait_lane hw (by rw [hR.lenc]; exact hk')
    have hex : execM x m (beat p m s) = (lanesOf m).foldl (exec1 x) (beat p m s) := by
      unfold execM
      simp only [hb', Bool.false_eq_true, if_false]
    rw [pass_nowait hw2] at g2
    rw [phF_nowait hw2] at g3
    refine ⟨_, ⟨lanesOf m, g1, g2, by rw [hex]; exact e1, hw2, by rw [g3, hex, e5]; rfl, by rw [g4, hex]; exact e4⟩, fun k hk hbit => ?_, fun k hk hbit => ?_⟩
    · have := e2 k ((lanes_in n8 hk).2 hbit)
      exact ⟨this.1, this.2.1⟩
    · exact e3 k (fun h => by rw [(lanes_in n8 hk).1 h] at hbit; cases hbit)
/-- Lanes that go on, as a part of a run. -/
theorem sim_move {l : List Cd} {n p m : Nat} (n8 : n ≤ 8) (hm : m < 2 ^ n) {x : Cd} {r : List Cd} (hd : l.drop p = x :: r) (h10 : 10 < x.op) {s : LS} {c : Cw} (hR : LR2 n s c) (hw : nowait c)
    (hpos : ∀ k, k < n → m.testBit k = true → (c.lane k).pos = p) :
    ∃ c', Seg l n s c s c' ∧ (∀ k, k < n → m.testBit k = true → ((c'.lane k).pos, (c'.lane k).turns) = nextP l (s.regs.getD k []) p (c.lane k).turns) ∧ (∀ k, k < n → m.testBit k = false → c'.lane k = c.lane k) := by
  obtain ⟨g1, g2, g3, g4, g5, g6, g7, g8, g9⟩ := move_sim (l := l) (p := p) (by rw [cdAt_drop hd]; exact h10) (lanesOf m) c s.phase hR.lenc hw (drop_cons hd).2.2 (lanes_nodup m) (fun k hk => by
    have := lanesOf_lt hm hk
    exact ⟨this, hpos k this (lanesOf_mem.1 hk).2⟩)
  refine ⟨_, ⟨lanesOf m, g1, rfl, ⟨g4, hR.lens, g6.trans hR.mem, fun k hk => (g7 k).trans (hR.regs k hk)⟩, g5, g2, by rw [g3, List.append_nil]⟩, fun k hk hb => ?_, fun k hk hb => g9 k (fun h => by rw [(lanes_in n8 hk).1 h] at hb; cases hb)⟩
  rw [← hR.regs k hk]
  exact g8 k ((lanes_in n8 hk).2 hb)


theorem reg_eq (s : LS) (k : Nat) (a : Int) : rg (s.regs.getD k []) a = s.reg k a := rfl
theorem m8 {m n : Nat} (h : m < 2 ^ n) (hn : n ≤ 8) : m < 2 ^ 8 := Nat.lt_of_lt_of_le h (Nat.pow_le_pow_right (by decide) hn)
theorem pair_eq {α β : Type} {a a' : α} {b b' : β} (h : (a, b) = (a', b')) : a = a' ∧ b = b' := by
  injection h with h1 h2
  exact ⟨h1, h2⟩
theorem run_unsplit {l : List Cd} {n : Nat} (b : Blk) {p m : Nat} {s : LS} (h : splitB l n (b.run p m s).beats = false) : splitB l n s.beats = false := split_less (run_more b p m s) h
/-- Turns of a loop. -/
theorem sim_turns {l : List Cd} {n p : Nat} (n8 : n ≤ 8) {a b : Int} {t : Blk} {rest : List Cd} {d : Nat} (ht : t.ok d) (hd : l.drop p = cLoop a b :: (t.flat ++ cEnd :: rest))
    (IH : ∀ (m : Nat) (s : LS) (c : Cw), m < 2 ^ n → LR2 n s c → nowait c → (∀ k, k < n → m.testBit k = true → (c.lane k).pos = p + 1) → splitB l n (t.run (p + 1) m s).beats = false → SimP l n m (p + 1 + t.flat.length) s (t.run (p + 1) m s) c) :
    ∀ (j m : Nat) (s : LS) (c : Cw) (T : Nat → List Int), m < 2 ^ n → LR2 n s c → nowait c → (∀ k, k < n → m.testBit k = true → (c.lane k).pos = p + 1 ∧ (c.lane k).turns = T k ++ [(j : Int)]) →
      splitB l n (turnsOf (fun m s => t.run (p + 1) m s) a j m (t.run (p + 1) m s)).beats = false →
      ∃ c', Seg l n s c (turnsOf (fun m s => t.run (p + 1) m s) a j m (t.run (p + 1) m s)) c' ∧ (∀ k, k < n → m.testBit k = true → (c'.lane k).pos = p + t.flat.length + 2 ∧ (c'.lane k).turns = T k) ∧ (∀ k, k < n → m.testBit k = false → c'.lane k = c.lane k) := by
  obtain ⟨-, k2, k3⟩ := end_iff ht hd
  have har := around_tree ht (show opB (cLoop a b) = true from rfl) hd
  have hE : l.drop (p + t.flat.length + 1) = cEnd :: rest := by
    have := drop_skip k2
    rw [← this]; congr 1; omega
  have h13 : (opAt l p == 13) = true := by rw [opAt_drop hd]; rfl
  have hca : (cdAt l p).a = a := by rw [cdAt_drop hd]; rfl
  intro j
  induction j with
  | zero =>
    intro m s c T hm hR hw hpos hs
    obtain ⟨c1, s1, ca1, cb1⟩ := IH m s c hm hR hw (fun k hk hb => (hpos k hk hb).1) (by simpa [turnsOf] using hs)
    obtain ⟨r1, w1⟩ := s1.lr
    obtain ⟨c2, s2, ca2, cb2⟩ := sim_move n8 hm hE (by decide) r1 w1 (fun k hk hb => by rw [(ca1 k hk hb).1]; omega)
    refine ⟨c2, s1.trans s2, fun k hk hb => ?_, fun k hk hb => (cb2 k hk hb).trans (cb1 k hk hb)⟩
    have h1 := ca2 k hk hb
    rw [next_end (cdAt_drop hE), har, if_pos h13, (ca1 k hk hb).2, (hpos k hk hb).2] at h1
    have eL : (T k ++ [((0 : Nat) : Int)]).getLastD 0 = 0 := by simp
    have eD : (T k ++ [((0 : Nat) : Int)]).dropLast = T k := by simp
    rw [eL, eD] at h1
    simp only [Int.lt_irrefl, decide_false, Bool.false_and, Bool.false_eq_true, if_false] at h1
    exact pair_eq h1
  | succ j ih =>
    intro m s c T hm hR hw hpos hs
    obtain ⟨c1, s1, ca1, cb1⟩ := IH m s c hm hR hw (fun k hk hb => (hpos k hk hb).1) (split_less (turns_more (fun m s => run_more t (p + 1) m s) a (j + 1) m _) hs)
    obtain ⟨r1, w1⟩ := s1.lr
    obtain ⟨c2, s2, ca2, cb2⟩ := sim_move n8 hm hE (by decide) r1 w1 (fun k hk hb => by rw [(ca1 k hk hb).1]; omega)
    obtain ⟨r2, w2⟩ := s2.lr
    have hone : ∀ k, (onesOf m a (t.run (p + 1) m s)).testBit k = (m.testBit k && !((t.run (p + 1) m s).reg k a == 0)) := fun k => onesOf_bit m a _ k (m8 hm n8)
    have hlt := onesOf_lt hm n8 a (t.run (p + 1) m s)
    have hst : ∀ k, k < n → m.testBit k = true → (((t.run (p + 1) m s).reg k a == 0) = false → (c2.lane k).pos = p + 1 ∧ (c2.lane k).turns = T k ++ [(j : Int)]) ∧ (((t.run (p + 1) m s).reg k a == 0) = true → (c2.lane k).pos = p + t.flat.length + 2 ∧ (c2.lane k).turns = T k) := fun k hk hb => by
      have h1 := ca2 k hk hb
      rw [next_end (cdAt_drop hE), har, if_pos h13, (ca1 k hk hb).2, (hpos k hk hb).2, hca, reg_eq] at h1
      have eL : (T k ++ [((j + 1 : Nat) : Int)]).getLastD 0 = ((j + 1 : Nat) : Int) := by simp
      have eD : (T k ++ [((j + 1 : Nat) : Int)]).dropLast = T k := by simp
      have e0 : decide ((0 : Int) < ((j + 1 : Nat) : Int)) = true := decide_eq_true (by omega)
      have e1 : ((j + 1 : Nat) : Int) - 1 = (j : Int) := by omega
      rw [eL, eD, e0, e1, Bool.true_and] at h1
      refine ⟨fun hz => ?_, fun hz => ?_⟩
      · rw [hz] at h1
        exact pair_eq h1
      · rw [hz] at h1
        exact pair_eq h1
    obtain ⟨c3, s3, ca3, cb3⟩ := ih (onesOf m a (t.run (p + 1) m s)) (t.run (p + 1) m s) c2 T hlt r2 w2 (fun k hk hb => by
      rw [hone, Bool.and_eq_true, Bool.not_eq_true'] at hb
      exact (hst k hk hb.1).1 hb.2) hs
    refine ⟨c3, (s1.trans s2).trans s3, fun k hk hb => ?_, fun k hk hb => ?_⟩
    · cases hz : (t.run (p + 1) m s).reg k a == 0 with
      | false => exact ca3 k hk (by rw [hone, hb, hz]; rfl)
      | true =>
        rw [cb3 k hk (by rw [hone, hb, hz]; rfl)]
        exact (hst k hk hb).2 hz
    · rw [cb3 k hk (by rw [hone, hb]; rfl), cb2 k hk hb, cb1 k hk hb]

theorem sim_run {l : List Cd} {n : Nat} (n8 : n ≤ 8) (b : Blk) : ∀ (d p : Nat) (rest : List Cd) (m : Nat) (s : LS) (c : Cw), b.ok d → l.drop p = b.flat ++ rest → m < 2 ^ n → LR2 n s c → nowait c →
    (∀ k, k < n → m.testBit k = true → (c.lane k).pos = p) → splitB l n (b.run p m s).beats = false → SimP l n m (p + b.flat.length) s (b.run p m s) c := by
  have hzero : ∀ (b : Blk) (p e : Nat) (s : LS) (c : Cw), LR2 n s c → nowait c → SimP l n 0 e s (b.run p 0 s) c := fun b p e s c hR hw => by
    have e : b.run p 0 s = s := by cases b <;> simp [Blk.run]
    rw [e]
    exact ⟨c, Seg.refl hR hw, fun k _ h => by simp at h, fun _ _ _ => rfl⟩
  induction b with
  | nil =>
    intro d p rest m s c _ _ _ hR hw hpos _
    exact ⟨c, Seg.refl hR hw, fun k hk hb => ⟨hpos k hk hb, rfl⟩, fun _ _ _ => rfl⟩
  | op x r ih =>
    intro d p rest m s c hok hd hm hR hw hpos hs
    by_cases h0 : m = 0
    · subst h0; exact hzero _ _ _ _ _ hR hw
    obtain ⟨hv, ho1, ho, hr⟩ := hok
    have hd' : l.drop p = x :: (r.flat ++ rest) := by rw [hd]; simp [Blk.flat]
    have hl : p + (Blk.op x r).flat.length = p + 1 + r.flat.length := by simp [Blk.flat]; omega
    rw [hl]
    simp only [Blk.run, if_neg h0] at hs ⊢
    have hs1 := run_unsplit r hs
    rw [execM_beats] at hs1
    obtain ⟨c1, s1, ca1, cb1⟩ := sim_op n8 hm h0 hd' ho ho1 hR hw hpos hs1
    obtain ⟨r1, w1⟩ := s1.lr
    obtain ⟨c2, s2, ca2, cb2⟩ := ih d (p + 1) rest m _ c1 hr (drop_cons hd').2.1 hm r1 w1 (fun k hk hb => (ca1 k hk hb).1) hs
    exact ⟨c2, s1.trans s2, fun k hk hb => ⟨(ca2 k hk hb).1, (ca2 k hk hb).2.trans (ca1 k hk hb).2⟩, fun k hk hb => (cb2 k hk hb).trans (cb1 k hk hb)⟩
  | iff a t r iht ihr =>
    intro d p rest m s c hok hd hm hR hw hpos hs
    by_cases h0 : m = 0
    · subst h0; exact hzero _ _ _ _ _ hR hw
    obtain ⟨ha, hd1, ht, hr⟩ := hok
    have hd' : l.drop p = cIf a :: (t.flat ++ cEnd :: (r.flat ++ rest)) := by rw [hd]; simp [Blk.flat]
    obtain ⟨-, k2, k3⟩ := end_iff ht hd'
    have hov := over_iff ht hd'
    have har := around_tree ht (show opB (cIf a) = true from rfl) hd'
    have hE : l.drop (p + t.flat.length + 1) = cEnd :: (r.flat ++ rest) := by
      have := drop_skip k2
      rw [← this]; congr 1; omega
    have hl : p + (Blk.iff a t r).flat.length = p + t.flat.length + 2 + r.flat.length := by simp [Blk.flat]; omega
    rw [hl]
    simp only [Blk.run, if_neg h0] at hs ⊢
    have hs1 := run_unsplit r hs
    have hone : ∀ k, (onesOf m a s).testBit k = (m.testBit k && !(s.reg k a == 0)) := fun k => onesOf_bit m a s k (m8 hm n8)
    have hlt := onesOf_lt hm n8 a s
    obtain ⟨c1, s1, ca1, cb1⟩ := sim_move n8 hm hd' (show (10 : Int) < 11 by decide) hR hw hpos
    have s1' : Seg l n s c (beat p m s) c1 := by
      obtain ⟨t1, a1, a2, a3, a4, a5, a6⟩ := s1
      exact ⟨t1, a1, a2, a3.beat p m, a4, a5, a6⟩
    obtain ⟨r1, w1⟩ := s1'.lr
    have hst : ∀ k, k < n → m.testBit k = true → ((s.reg k a == 0) = false → (c1.lane k).pos = p + 1 ∧ (c1.lane k).turns = (c.lane k).turns) ∧ ((s.reg k a == 0) = true → (c1.lane k).pos = p + t.flat.length + 2 ∧ (c1.lane k).turns = (c.lane k).turns) := fun k hk hb => by
      have h1 := ca1 k hk hb
      rw [next_if (cdAt_drop hd'), hov, reg_eq] at h1
      refine ⟨fun hz => ?_, fun hz => ?_⟩
      · rw [hz] at h1; exact pair_eq h1
      · rw [hz] at h1; exact pair_eq h1
    obtain ⟨c2, s2, ca2, cb2⟩ := iht (d - 1) (p + 1) _ (onesOf m a s) (beat p m s) c1 ht k2 hlt r1 w1 (fun k hk hb => by
      rw [hone, Bool.and_eq_true, Bool.not_eq_true'] at hb
      exact ((hst k hk hb.1).1 hb.2).1) hs1
    obtain ⟨r2, w2⟩ := s2.lr
    obtain ⟨c3, s3, ca3, cb3⟩ := sim_move n8 hlt hE (show (10 : Int) < 14 by decide) r2 w2 (fun k hk hb => by rw [(ca2 k hk hb).1]; omega)
    obtain ⟨r3, w3⟩ := s3.lr
    have hall : ∀ k, k < n → m.testBit k = true → (c3.lane k).pos = p + t.flat.length + 2 ∧ (c3.lane k).turns = (c.lane k).turns := fun k hk hb => by
      cases hz : s.reg k a == 0 with
      | false =>
        have hb2 : (onesOf m a s).testBit k = true := by rw [hone, hb, hz]; rfl
        have h1 := ca3 k hk hb2
        rw [next_end (cdAt_drop hE), har, opAt_drop hd'] at h1
        have h2 := pair_eq h1
        exact ⟨h2.1, h2.2.trans ((ca2 k hk hb2).2.trans ((hst k hk hb).1 hz).2)⟩
      | true =>
        have hb2 : (onesOf m a s).testBit k = false := by rw [hone, hb, hz]; rfl
        rw [cb3 k hk hb2, cb2 k hk hb2]
        exact (hst k hk hb).2 hz
    obtain ⟨c4, s4, ca4, cb4⟩ := ihr d (p + t.flat.length + 2) rest m _ c3 hr k3 hm r3 w3 (fun k hk hb => (hall k hk hb).1) hs
    refine ⟨c4, ((s1'.trans s2).trans s3).trans s4, fun k hk hb => ⟨(ca4 k hk hb).1, (ca4 k hk hb).2.trans (hall k hk hb).2⟩, fun k hk hb => ?_⟩
    have hb2 : (onesOf m a s).testBit k = false := by rw [hone, hb]; rfl
    rw [cb4 k hk hb, cb3 k hk hb2, cb2 k hk hb2, cb1 k hk hb]
  | ife a t e r iht ihe ihr =>
    intro d p rest m s c hok hd hm hR hw hpos hs
    by_cases h0 : m = 0
    · subst h0; exact hzero _ _ _ _ _ hR hw
    obtain ⟨ha, hd1, ht, he, hr⟩ := hok
    have hd' : l.drop p = cIf a :: (t.flat ++ cElse :: (e.flat ++ cEnd :: (r.flat ++ rest))) := by rw [hd]; simp [Blk.flat]
    obtain ⟨-, k2, k4, k3⟩ := end_ife ht he hd'
    obtain ⟨hov, hen⟩ := over_ife ht he hd'
    have har := around_tree ht (show opB (cIf a) = true from rfl) hd'
    have har2 := around_ife ht he (show opB (cIf a) = true from rfl) hd'
    have hE : l.drop (p + t.flat.length + 1) = cElse :: (e.flat ++ cEnd :: (r.flat ++ rest)) := by
      have := drop_skip k2
      rw [← this]; congr 1; omega
    have hE2 : l.drop (p + t.flat.length + e.flat.length + 2) = cEnd :: (r.flat ++ rest) := by
      have := drop_skip k4
      rw [← this]; congr 1; omega
    have hl : p + (Blk.ife a t e r).flat.length = p + t.flat.length + e.flat.length + 3 + r.flat.length := by simp [Blk.flat]; omega
    rw [hl]
    simp only [Blk.run, if_neg h0] at hs ⊢
    have hs2 := run_unsplit r hs
    have hs1 := run_unsplit e hs2
    have hone : ∀ k, (onesOf m a s).testBit k = (m.testBit k && !(s.reg k a == 0)) := fun k => onesOf_bit m a s k (m8 hm n8)
    have hlt := onesOf_lt hm n8 a s
    have hnot : ∀ k, (mdiff m (onesOf m a s)).testBit k = (m.testBit k && (s.reg k a == 0)) := fun k => by
      rw [testBit_mdiff, hone]
      cases m.testBit k <;> cases (s.reg k a == 0) <;> rfl
    have hlt2 : mdiff m (onesOf m a s) < 2 ^ n := mdiff_lt hm
    obtain ⟨c1, s1, ca1, cb1⟩ := sim_move n8 hm hd' (show (10 : Int) < 11 by decide) hR hw hpos
    have s1' : Seg l n s c (beat p m s) c1 := by
      obtain ⟨t1, a1, a2, a3, a4, a5, a6⟩ := s1
      exact ⟨t1, a1, a2, a3.beat p m, a4, a5, a6⟩
    obtain ⟨r1, w1⟩ := s1'.lr
    have hst : ∀ k, k < n → m.testBit k = true → ((s.reg k a == 0) = false → (c1.lane k).pos = p + 1 ∧ (c1.lane k).turns = (c.lane k).turns) ∧ ((s.reg k a == 0) = true → (c1.lane k).pos = p + t.flat.length + 2 ∧ (c1.lane k).turns = (c.lane k).turns) := fun k hk hb => by
      have h1 := ca1 k hk hb
      rw [next_if (cdAt_drop hd'), hov, reg_eq] at h1
      refine ⟨fun hz => ?_, fun hz => ?_⟩
      · rw [hz] at h1; exact pair_eq h1
      · rw [hz] at h1; exact pair_eq h1
    obtain ⟨c2, s2, ca2, cb2⟩ := iht (d - 1) (p + 1) _ (onesOf m a s) (beat p m s) c1 ht k2 hlt r1 w1 (fun k hk hb => by
      rw [hone, Bool.and_eq_true, Bool.not_eq_true'] at hb
      exact ((hst k hk hb.1).1 hb.2).1) hs1
    obtain ⟨r2, w2⟩ := s2.lr
    obtain ⟨c3, s3, ca3, cb3⟩ := sim_move n8 hlt hE (show (10 : Int) < 12 by decide) r2 w2 (fun k hk hb => by rw [(ca2 k hk hb).1]; omega)
    obtain ⟨r3, w3⟩ := s3.lr
    obtain ⟨c4, s4, ca4, cb4⟩ := ihe (d - 1) (p + t.flat.length + 2) _ (mdiff m (onesOf m a s)) _ c3 he k4 hlt2 r3 w3 (fun k hk hb => by
      rw [hnot, Bool.and_eq_true] at hb
      have hb2 : (onesOf m a s).testBit k = false := by rw [hone, hb.1, hb.2]; rfl
      rw [cb3 k hk hb2, cb2 k hk hb2]
      exact ((hst k hk hb.1).2 hb.2).1) hs2
    obtain ⟨r4, w4⟩ := s4.lr
    obtain ⟨c5, s5, ca5, cb5⟩ := sim_move n8 hlt2 hE2 (show (10 : Int) < 14 by decide) r4 w4 (fun k hk hb => by rw [(ca4 k hk hb).1]; omega)
    obtain ⟨r5, w5⟩ := s5.lr
    have hall : ∀ k, k < n → m.testBit k = true → (c5.lane k).pos = p + t.flat.length + e.flat.length + 3 ∧ (c5.lane k).turns = (c.lane k).turns := fun k hk hb => by
      cases hz : s.reg k a == 0 with
      | false =>
        have hb2 : (onesOf m a s).testBit k = true := by rw [hone, hb, hz]; rfl
        have hb3 : (mdiff m (onesOf m a s)).testBit k = false := by rw [hnot, hb, hz]; rfl
        have h1 := ca3 k hk hb2
        rw [next_else (cdAt_drop hE), har, hen] at h1
        have h2 := pair_eq h1
        rw [cb5 k hk hb3, cb4 k hk hb3]
        exact ⟨h2.1, h2.2.trans ((ca2 k hk hb2).2.trans ((hst k hk hb).1 hz).2)⟩
      | true =>
        have hb2 : (onesOf m a s).testBit k = false := by rw [hone, hb, hz]; rfl
        have hb3 : (mdiff m (onesOf m a s)).testBit k = true := by rw [hnot, hb, hz]; rfl
        have h1 := ca5 k hk hb3
        rw [next_end (cdAt_drop hE2), har2, opAt_drop hd'] at h1
        have h2 := pair_eq h1
        refine ⟨h2.1, h2.2.trans ((ca4 k hk hb3).2.trans ?_)⟩
        rw [cb3 k hk hb2, cb2 k hk hb2]
        exact ((hst k hk hb).2 hz).2
    obtain ⟨c6, s6, ca6, cb6⟩ := ihr d (p + t.flat.length + e.flat.length + 3) rest m _ c5 hr k3 hm r5 w5 (fun k hk hb => (hall k hk hb).1) hs
    refine ⟨c6, ((((s1'.trans s2).trans s3).trans s4).trans s5).trans s6, fun k hk hb => ⟨(ca6 k hk hb).1, (ca6 k hk hb).2.trans (hall k hk hb).2⟩, fun k hk hb => ?_⟩
    have hb2 : (onesOf m a s).testBit k = false := by rw [hone, hb]; rfl
    have hb3 : (mdiff m (onesOf m a s)).testBit k = false := by rw [hnot, hb]; rfl
    rw [cb6 k hk hb, cb5 k hk hb3, cb4 k hk hb3, cb3 k hk hb2, cb2 k hk hb2, cb1 k hk hb]
  | loop a b t r iht ihr =>
    intro d p rest m s c hok hd hm hR hw hpos hs
    by_cases h0 : m = 0
    · subst h0; exact hzero _ _ _ _ _ hR hw
    obtain ⟨ha, hb14, hd1, ht, hr⟩ := hok
    have hd' : l.drop p = cLoop a b :: (t.flat ++ cEnd :: (r.flat ++ rest)) := by rw [hd]; simp [Blk.flat]
    obtain ⟨-, k2, k3⟩ := end_iff ht hd'
    have hov := over_iff ht hd'
    have hl : p + (Blk.loop a b t r).flat.length = p + t.flat.length + 2 + r.flat.length := by simp [Blk.flat]; omega
    rw [hl]
    simp only [Blk.run, if_neg h0] at hs ⊢
    have hs1 := run_unsplit r hs
    obtain ⟨j, hj, hji⟩ : ∃ j : Nat, b.toNat = j + 1 ∧ b - 1 = (j : Int) := ⟨b.toNat - 1, by omega, by omega⟩
    have eT : turnsOf (fun m s => t.run (p + 1) m s) a b.toNat m (beat p m s) = turnsOf (fun m s => t.run (p + 1) m s) a j (onesOf m a s) (t.run (p + 1) (onesOf m a s) (beat p m s)) := by
      rw [hj]; rfl
    rw [eT] at hs hs1 ⊢
    have hone : ∀ k, (onesOf m a s).testBit k = (m.testBit k && !(s.reg k a == 0)) := fun k => onesOf_bit m a s k (m8 hm n8)
    have hlt := onesOf_lt hm n8 a s
    obtain ⟨c1, s1, ca1, cb1⟩ := sim_move n8 hm hd' (show (10 : Int) < 13 by decide) hR hw hpos
    have s1' : Seg l n s c (beat p m s) c1 := by
      obtain ⟨t1, a1, a2, a3, a4, a5, a6⟩ := s1
      exact ⟨t1, a1, a2, a3.beat p m, a4, a5, a6⟩
    obtain ⟨r1, w1⟩ := s1'.lr
    have hst : ∀ k, k < n → m.testBit k = true → ((s.reg k a == 0) = false → (c1.lane k).pos = p + 1 ∧ (c1.lane k).turns = (c.lane k).turns ++ [(j : Int)]) ∧ ((s.reg k a == 0) = true → (c1.lane k).pos = p + t.flat.length + 2 ∧ (c1.lane k).turns = (c.lane k).turns) := fun k hk hb => by
      have h1 := ca1 k hk hb
      rw [next_loop (cdAt_drop hd'), hov, reg_eq, hji] at h1
      refine ⟨fun hz => ?_, fun hz => ?_⟩
      · rw [hz] at h1; exact pair_eq h1
      · rw [hz] at h1; exact pair_eq h1
    obtain ⟨c2, s2, ca2, cb2⟩ := sim_turns n8 ht hd' (fun m s c hm hR hw hpos hs => iht (d - 1) (p + 1) _ m s c ht k2 hm hR hw hpos hs) j (onesOf m a s) (beat p m s) c1 (fun k => (c.lane k).turns) hlt r1 w1 (fun k hk hb => by
      rw [hone, Bool.and_eq_true, Bool.not_eq_true'] at hb
      exact (hst k hk hb.1).1 hb.2) hs1
    obtain ⟨r2, w2⟩ := s2.lr
    have hall : ∀ k, k < n → m.testBit k = true → (c2.lane k).pos = p + t.flat.length + 2 ∧ (c2.lane k).turns = (c.lane k).turns := fun k hk hb => by
      cases hz : s.reg k a == 0 with
      | false => exact ca2 k hk (by rw [hone, hb, hz]; rfl)
      | true =>
        rw [cb2 k hk (by rw [hone, hb, hz]; rfl)]
        exact (hst k hk hb).2 hz
    obtain ⟨c4, s4, ca4, cb4⟩ := ihr d (p + t.flat.length + 2) rest m _ c2 hr k3 hm r2 w2 (fun k hk hb => (hall k hk hb).1) hs
    refine ⟨c4, (s1'.trans s2).trans s4, fun k hk hb => ⟨(ca4 k hk hb).1, (ca4 k hk hb).2.trans (hall k hk hb).2⟩, fun k hk hb => ?_⟩
    rw [cb4 k hk hb, cb2 k hk (by rw [hone, hb]; rfl), cb1 k hk hb]

/-- A safe program leads to the memory of lockstep in every order. -/
theorem safe_one {l : List Cd} {n P : Nat} {mem : List Int} (hp : pv l = true) (n1 : 1 ≤ n) (n8 : n ≤ 8) (hm : wordsOk mem) (hsp : splitB l n (lockS l n mem).beats = false) (hrf : RF (lockS l n mem).accs)
    {sch : Nat → List Nat} (hs : SchOk n P sch) : (runE l sch (Cw.start n mem)).mem = (lockS l n mem).mem := by
  obtain ⟨h1, h2⟩ := treeOf_spec hp
  have hR : LR2 n (LS.start n mem) (Cw.start n mem) := ⟨by simp [Cw.start], by simp [LS.start], rfl, fun k hk => by simp [Cw.start, LS.start, Cw.lane, List.getD_eq_getElem?_getD, hk, Ln.new]⟩
  have hw : nowait (Cw.start n mem) := fun s hs => by rw [(List.mem_replicate.1 hs).2]; rfl
  have hpos : ∀ k, k < n → ((Cw.start n mem).lane k).pos = 0 := fun k hk => by simp [Cw.start, Cw.lane, List.getD_eq_getElem?_getD, hk, Ln.new]
  have hlt : 2 ^ n - 1 < 2 ^ n := by have := Nat.two_pow_pos n; omega
  obtain ⟨c', ⟨t, a1, a2, a3, a4, a5, a6⟩, ca, -⟩ := sim_run (l := l) n8 (treeOf l) 3 0 [] (2 ^ n - 1) (LS.start n mem) (Cw.start n mem) h1 (by simp [h2]) hlt hR hw (fun k hk _ => hpos k hk) hsp
  subst a2
  have ho : overC l (linC l (Cw.start n mem) t) = true := by
    unfold overC
    rw [List.all_eq_true]
    intro s hs
    obtain ⟨k, hk, rfl⟩ := List.getElem_of_mem hs
    have hkn : k < n := by rw [← a3.lenc]; exact hk
    have := (ca k hkn (by rw [Nat.testBit_two_pow_sub_one]; simp [hkn])).1
    rw [lane_eq hk, h2] at this
    simp only [decide_eq_true_eq]
    omega
  have h0 : CwOk l n (Cw.start n mem) := CwOk.start hm
  have hn0 := start_nrm (l := l) n1 mem
  obtain ⟨T1, -, -⟩ := run_T hp n8 hs h0 hn0
  obtain ⟨t', b1, b2⟩ := lin_run hp n8 hs h0 hn0 (endT l sch (Cw.start n mem))
  have e := conf t' (Cw.start n mem) 0 t a1 ho (by
    refine hrf.sub (fun x hx => ?_)
    show x ∈ ((treeOf l).run 0 (2 ^ n - 1) (LS.start n mem)).accs
    rw [a6]
    exact List.mem_append_right _ hx) b1 (by rw [b2]; exact T1)
  show (runC l sch (Cw.start n mem) (endT l sch (Cw.start n mem))).mem = _
  rw [← b2, e, a3.mem]
  rfl


theorem cl_clash {a b : Acc} (h : clB a b = true) : clashA a b = true := by
  simp only [clB, Bool.and_eq_true, Bool.or_eq_true, beq_iff_eq, bne_iff_ne, ne_eq] at h
  obtain ⟨⟨⟨h1, h2⟩, h3⟩, h4⟩ := h
  simp only [clashA, clashI, Bool.and_eq_true, Bool.or_eq_true, beq_iff_eq, bne_iff_ne, ne_eq]
  exact ⟨⟨⟨by exact_mod_cast h1, by exact_mod_cast h2⟩, by exact_mod_cast h3⟩, h4⟩
theorem cl_symm {a b : Acc} (h : clB a b = true) : clB b a = true := by
  simp only [clB, Bool.and_eq_true, Bool.or_eq_true, beq_iff_eq, bne_iff_ne, ne_eq] at h ⊢
  obtain ⟨⟨⟨h1, h2⟩, h3⟩, h4⟩ := h
  exact ⟨⟨⟨h1.symm, fun e => h2 e.symm⟩, h3.symm⟩, h4.symm⟩
theorem race_rf {A : List Acc} (h : raceB A = false) : RF A := by
  intro a ha b hb
  cases hc : clB a b with
  | false => rfl
  | true =>
    obtain ⟨i, hi, rfl⟩ := List.getElem_of_mem ha
    obtain ⟨k, hk, rfl⟩ := List.getElem_of_mem hb
    have e1 : A[i]? = some A[i] := List.getElem?_eq_getElem hi
    have e2 : A[k]? = some A[k] := List.getElem?_eq_getElem hk
    rcases Nat.lt_trichotomy i k with h1 | h1 | h1
    · rw [race_yes h1 e1 e2 (cl_clash hc)] at h; cases h
    · subst h1
      simp [clB] at hc
    · rw [race_yes h1 e2 e1 (cl_clash (cl_symm hc))] at h; cases h
/-- What it is to be safe. -/
theorem safe_parts {l : List Cd} {n : Int} {m : List Int} (h : reasonOf l n m = 0) : lockOk l n m = true ∧ splitB l n.toNat (lockS l n.toNat m).beats = false ∧ RF (lockS l n.toNat m).accs := by
  cases hok : lockOk l n m with
  | false => simp [reasonOf, hok] at h
  | true =>
    cases hs : splitB l n.toNat (lockS l n.toNat m).beats with
    | true => simp [reasonOf, hok, hs] at h
    | false =>
      cases hr : raceB (accsOf l n m) with
      | true => simp [reasonOf, hok, hs, hr] at h
      | false =>
        refine ⟨rfl, rfl, race_rf ?_⟩
        simpa [accsOf, hok] using hr
theorem safe_sch {l : List Cd} {N P : Nat} {m : List Int} (h : reasonOf l N m = 0) {sch : Nat → List Nat} (hs : SchOk N P sch) : (runE l sch (Cw.start N m)).mem = runOf l N m := by
  obtain ⟨hok, h1, h2⟩ := safe_parts h
  have h' := hok
  simp only [lockOk, Bool.and_eq_true] at h'
  obtain ⟨n1, n8⟩ := inR_iff.1 h'.2.1
  rw [Int.toNat_natCast] at h1 h2
  rw [safe_one h'.1 (by omega) (by omega) (memOk_iff.1 h'.2.2).1 h1 h2 hs]
  simp [runOf, hok]
theorem safe_order {l : List Cd} {n : Int} {m xs : List Int} (h : reasonOf l n m = 0) (hx : ordOk xs n = true) : orderM l n m xs = runOf l n m := by
  have hok : orderOk l n m xs = true := by simp [orderOk, (safe_parts h).1, hx]
  obtain ⟨N, rfl, N1, N8, x1, x40, hxs, hsch, hp, hw, hm1, hm32⟩ := order_in hok
  have : orderM l N m xs = (runE l (orSch xs) (Cw.start N m)).mem := by simp [orderM, hok]
  rw [this, safe_sch h hsch]

end Go.Proofs.YtelbfeidpcojmaaGreat
