/- Launches one after the other: plain Lean. -/
import Derived.Test.YtakeacndmnnbmaaGreatLaunch
namespace Go.Proofs.YtakeacndmnnbmaaGreat
open Go.RowKit
set_option linter.unusedVariables false
set_option linter.unusedSimpArgs false

theorem execTo_ml (x : Cd) (m : Nat) (s : LS) : ∀ k, (execTo x m s k).mem.length = s.mem.length
  | 0 => rfl
  | k + 1 => by
    have ih := execTo_ml x m s k
    simp only [execTo]
    split
    · show (simp1 x k _ _).2.length = _
      rw [(simp1_len x k _ _).2]; exact ih
    · exact ih
theorem execM_ml (x : Cd) (m : Nat) (s : LS) : (execM x m s).mem.length = s.mem.length := by
  have h := execTo_ml x m s 8
  unfold execM
  rw [exec_to]
  dsimp only
  split
  · exact h
  · exact h
theorem turns_ml {f : Nat → LS → LS} (hf : ∀ m s, (f m s).mem.length = s.mem.length) (a : Int) : ∀ (b m : Nat) (s : LS), (turnsOf f a b m s).mem.length = s.mem.length
  | 0, _, _ => rfl
  | b + 1, m, s => by
    simp only [turnsOf]
    rw [turns_ml hf a b, hf]
theorem run_ml (b : Blk) : ∀ (p m : Nat) (s : LS), (b.run p m s).mem.length = s.mem.length := by
  induction b with
  | nil => intro p m s; rfl
  | op x r ih =>
    intro p m s
    simp only [Blk.run]
    split
    · rfl
    · rw [ih, execM_ml]; rfl
  | iff a t r iht ihr =>
    intro p m s
    simp only [Blk.run]
    split
    · rfl
    · rw [ihr, iht]; rfl
  | ife a t e r iht ihe ihr =>
    intro p m s
    simp only [Blk.run]
    split
    · rfl
    · rw [ihr, ihe, iht]; rfl
  | loop a c t r iht ihr =>
    intro p m s
    simp only [Blk.run]
    split
    · rfl
    · rw [ihr, turns_ml (fun m s => iht _ m s)]; rfl
theorem runOf_ml {l : List Cd} {n : Int} {m : List Int} (h : lockOk l n m = true) : (runOf l n m).length = m.length := by
  unfold runOf
  rw [if_pos h]
  exact run_ml (treeOf l) 0 (2 ^ n.toNat - 1) (LS.start n.toNat m)
theorem lock_words {l : List Cd} {n : Int} {m : List Int} (h : lockOk l n m = true) : memOk (runOf l n m) = true := by
  have h1 := lockS_len h
  unfold runOf
  rw [if_pos h]
  exact memOk_iff.2 ⟨h1.memw, h1.mem1, h1.mem2⟩
theorem launch_good {l : List Cd} {n : Int} {m : List Int} (h : reasonOf l n m = 0) : launchM l n m = runOf l n m ∧ memOk (launchM l n m) = true ∧ (launchM l n m).length = m.length := by
  have hok : lockOk l n m = true := by
    cases hk : lockOk l n m with
    | true => rfl
    | false => simp [reasonOf, hk] at h
  have e : launchM l n m = runOf l n m := by
    unfold launchM
    rw [if_pos h, (opt_run hok).2]
  exact ⟨e, by rw [e]; exact lock_words hok, by rw [e]; exact runOf_ml hok⟩

/-- Launches from the program of number i on. -/
noncomputable def chainGo (n : Int) : List (List Cd) → List Int → Nat → List Int × Nat
  | [], x, i => (x, i)
  | p :: ps, x, i => if reasonOf p n x = 0 then chainGo n ps (launchM p n x) (i + 1) else (x, i)
def chainOk (ps : List (List Cd)) (n : Int) (m : List Int) : Bool := inR n 1 8 && memOk m && decide (ps.length ≤ 6)
noncomputable def chainM (ps : List (List Cd)) (n : Int) (m : List Int) : List Int := if chainOk ps n m then (chainGo n ps m 0).1 else []
noncomputable def chainN (ps : List (List Cd)) (n : Int) (m : List Int) : Nat := if chainOk ps n m then (chainGo n ps m 0).2 else 0
theorem chainGo_ml (n : Int) : ∀ (ps : List (List Cd)) (x : List Int) (i : Nat), (chainGo n ps x i).1.length = x.length ∧ i ≤ (chainGo n ps x i).2 ∧ (chainGo n ps x i).2 ≤ i + ps.length
  | [], x, i => ⟨rfl, Nat.le_refl _, Nat.le_refl _⟩
  | p :: ps, x, i => by
    simp only [chainGo]
    split
    · rename_i h
      obtain ⟨h1, h2, h3⟩ := chainGo_ml n ps (launchM p n x) (i + 1)
      have h4 := (launch_good h).2.2
      refine ⟨by rw [h1, h4], by omega, by simp only [List.length_cons]; omega⟩
    · exact ⟨rfl, Nat.le_refl _, by omega⟩
theorem chainM_len (ps : List (List Cd)) (n : Int) (m : List Int) : (chainM ps n m).length ≤ 32 ∧ chainN ps n m ≤ 6 ∧ chainN ps n m ≤ ps.length := by
  unfold chainM chainN
  split
  · rename_i h
    simp only [chainOk, Bool.and_eq_true, decide_eq_true_eq] at h
    obtain ⟨h1, h2, h3⟩ := chainGo_ml n ps m 0
    have := (memOk_iff.1 h.1.2).2.2
    rw [h1]
    omega
  · simp
/-- The beginning of a chain as far as it is good. -/
theorem chainGo_take (n : Int) : ∀ (ps : List (List Cd)) (x : List Int) (i : Nat), chainGo n (ps.take ((chainGo n ps x i).2 - i)) x i = chainGo n ps x i
  | [], x, i => by simp [chainGo]
  | p :: ps, x, i => by
    have hb := chainGo_ml n ps (launchM p n x) (i + 1)
    by_cases h : reasonOf p n x = 0
    · have e : chainGo n (p :: ps) x i = chainGo n ps (launchM p n x) (i + 1) := by simp only [chainGo, if_pos h]
      rw [e]
      have e2 : (chainGo n ps (launchM p n x) (i + 1)).2 - i = ((chainGo n ps (launchM p n x) (i + 1)).2 - (i + 1)) + 1 := by omega
      rw [e2, List.take_succ_cons]
      simp only [chainGo, if_pos h]
      exact chainGo_take n ps (launchM p n x) (i + 1)
    · have e : chainGo n (p :: ps) x i = (x, i) := by simp only [chainGo, if_neg h]
      rw [e]
      simp [chainGo]
/-- The program at which a chain ends is not good. -/
theorem chainGo_end (n : Int) : ∀ (ps : List (List Cd)) (x : List Int) (i : Nat), (chainGo n ps x i).2 < i + ps.length → ∃ p, ps[(chainGo n ps x i).2 - i]? = some p ∧ reasonOf p n (chainGo n ps x i).1 ≠ 0
  | [], x, i, h => by simp [chainGo] at h
  | p :: ps, x, i, h => by
    have hb := chainGo_ml n ps (launchM p n x) (i + 1)
    by_cases hr : reasonOf p n x = 0
    · have e : chainGo n (p :: ps) x i = chainGo n ps (launchM p n x) (i + 1) := by simp only [chainGo, if_pos hr]
      rw [e] at h ⊢
      obtain ⟨q, h1, h2⟩ := chainGo_end n ps (launchM p n x) (i + 1) (by simp only [List.length_cons] at h; omega)
      refine ⟨q, ?_, h2⟩
      rw [show (chainGo n ps (launchM p n x) (i + 1)).2 - i = ((chainGo n ps (launchM p n x) (i + 1)).2 - (i + 1)) + 1 by omega, List.getElem?_cons_succ]
      exact h1
    · have e : chainGo n (p :: ps) x i = (x, i) := by simp only [chainGo, if_neg hr]
      rw [e]
      exact ⟨p, by simp, hr⟩
theorem chain_law {ps : List (List Cd)} {n : Int} {m : List Int} (h : chainOk ps n m = true) :
    (chainM ps n m).length = m.length ∧ 1 ≤ m.length ∧ chainN ps n m ≤ ps.length ∧ chainM (ps.take (chainN ps n m)) n m = chainM ps n m ∧ chainN (ps.take (chainN ps n m)) n m = chainN ps n m ∧
      (chainN ps n m < ps.length → ∃ p, ps[chainN ps n m]? = some p ∧ reasonOf p n (chainM ps n m) ≠ 0) := by
  have h' := h
  simp only [chainOk, Bool.and_eq_true, decide_eq_true_eq] at h'
  obtain ⟨h1, h2, h3⟩ := chainGo_ml n ps m 0
  have hm := (memOk_iff.1 h'.1.2).2.1
  have eM : chainM ps n m = (chainGo n ps m 0).1 := by simp [chainM, h]
  have eN : chainN ps n m = (chainGo n ps m 0).2 := by simp [chainN, h]
  have hok2 : chainOk (ps.take (chainN ps n m)) n m = true := by
    simp only [chainOk, h'.1.1, h'.1.2, Bool.true_and, decide_eq_true_eq, List.length_take]
    omega
  have ht := chainGo_take n ps m 0
  rw [Nat.sub_zero] at ht
  have keyM : ∀ qs, chainOk qs n m = true → chainM qs n m = (chainGo n qs m 0).1 := fun qs hq => by simp [chainM, hq]
  have keyN : ∀ qs, chainOk qs n m = true → chainN qs n m = (chainGo n qs m 0).2 := fun qs hq => by simp [chainN, hq]
  have eM2 := keyM _ hok2
  have eN2 := keyN _ hok2
  refine ⟨by rw [eM, h1], hm, by omega, by rw [eM2, eN, ht, eM], by rw [eN2, eN, ht], fun hlt => ?_⟩
  have := chainGo_end n ps m 0 (by omega)
  rw [Nat.sub_zero] at this
  rw [eM, eN]
  exact this
theorem chain_bad {ps : List (List Cd)} {n : Int} {m : List Int} (h : chainOk ps n m = false) : chainM ps n m = [] ∧ chainN ps n m = 0 := by simp [chainM, chainN, h]
/-- A chain of two. -/
theorem chain_two {a b : List Cd} {n : Int} {m : List Int} (h : reasonOf a n m = 0) : chainM [a, b] n m = (if reasonOf b n (launchM a n m) = 0 then launchM b n (launchM a n m) else launchM a n m) ∧ chainN [a, b] n m = (if reasonOf b n (launchM a n m) = 0 then 2 else 1) := by
  have hok : lockOk a n m = true := by
    cases hk : lockOk a n m with
    | true => rfl
    | false => simp [reasonOf, hk] at h
  have h' := hok
  simp only [lockOk, Bool.and_eq_true] at h'
  have hc : chainOk [a, b] n m = true := by simp [chainOk, h'.2.1, h'.2.2]
  unfold chainM chainN
  rw [if_pos hc, if_pos hc]
  by_cases hb : reasonOf b n (launchM a n m) = 0
  · simp [chainGo, h, hb]
  · simp [chainGo, h, hb]
end Go.Proofs.YtakeacndmnnbmaaGreat
