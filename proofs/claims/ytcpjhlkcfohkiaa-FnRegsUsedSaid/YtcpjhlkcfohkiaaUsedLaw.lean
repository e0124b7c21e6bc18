/- A register that is not used stays 0: plain Lean, no program in sight. -/
import Derived.Test.YtcpjhlkcfohkiaaLock0
namespace Go.Proofs.Ytcpjhlkcfohkiaa
set_option linter.unusedVariables false
set_option linter.unusedSimpArgs false

/-- Register q is 0 in all lanes. -/
def ZR (q : Int) (s : LS) : Prop := ∀ k, rg (s.regs.getD k []) q = 0
def noW (q : Int) (x : Cd) : Prop := 1 ≤ x.op → x.op ≤ 8 → 0 ≤ x.a ∧ x.a ≠ q
theorem rg_set_ne (r : List Int) {a q : Int} (v : Int) (ha : 0 ≤ a) (hq : 0 ≤ q) (hne : a ≠ q) : rg (r.set a.toNat v) q = rg r q := by
  unfold rg
  rw [List.getD_eq_getElem?_getD, List.getD_eq_getElem?_getD, List.getElem?_set_ne (by omega)]
theorem simp1_zero {q : Int} (hq : 0 ≤ q) {x : Cd} (hx : noW q x) (id : Nat) {r m : List Int} (h : rg r q = 0) : rg (simp1 x id r m).1 q = 0 := by
  have key : 1 ≤ x.op → x.op ≤ 8 → ∀ v, rg (r.set x.a.toNat v) q = 0 := fun h1 h8 v => by rw [rg_set_ne r v (hx h1 h8).1 hq (hx h1 h8).2]; exact h
  unfold simp1
  repeat' split
  all_goals first
    | exact h
    | (rename_i e; simp at e; exact key (by omega) (by omega) _)
    | (rename_i e e2; simp at e; exact key (by omega) (by omega) _)
theorem exec1_zero {q : Int} (hq : 0 ≤ q) {x : Cd} (hx : noW q x) (k : Nat) {s : LS} (h : ZR q s) : ZR q (exec1 x s k) := by
  intro j
  unfold exec1
  simp only
  rw [List.getD_eq_getElem?_getD, List.getElem?_set]
  split
  · rename_i e
    subst e
    split
    · exact simp1_zero hq hx k (h k)
    · have := h k
      rename_i hlt
      simp at hlt
      rw [List.getD_eq_getElem?_getD, List.getElem?_eq_none hlt] at this
      exact this
  · rw [← List.getD_eq_getElem?_getD]
    exact h j
theorem execM_zero {q : Int} (hq : 0 ≤ q) {x : Cd} (hx : noW q x) (m : Nat) {s : LS} (h : ZR q s) : ZR q (execM x m s) := by
  have key : ∀ (l : List Nat) (s : LS), ZR q s → ZR q (l.foldl (exec1 x) s) := by
    intro l
    induction l with
    | nil => exact fun s h => h
    | cons k l ih => exact fun s h => ih _ (exec1_zero hq hx k h)
  unfold execM
  simp only
  split
  · exact key _ _ h
  · exact key _ _ h
theorem turns_zeroR {q : Int} {f : Nat → LS → LS} (hf : ∀ m s, ZR q s → ZR q (f m s)) (a : Int) : ∀ (b m : Nat) (s : LS), ZR q s → ZR q (turnsOf f a b m s)
  | 0, _, _, h => h
  | b + 1, m, s, h => turns_zeroR hf a b _ _ (hf _ _ h)
theorem run_zeroR {q : Int} (hq : 0 ≤ q) (b : Blk) : ∀ (p m : Nat) (s : LS), (∀ x ∈ b.flat, noW q x) → ZR q s → ZR q (b.run p m s) := by
  induction b with
  | nil => exact fun p m s _ h => h
  | op x r ih =>
    intro p m s hx h
    simp only [Blk.run]
    split
    · exact h
    · exact ih _ _ _ (fun y hy => hx y (by simp [Blk.flat, hy])) (execM_zero hq (hx x (by simp [Blk.flat])) m h)
  | iff a t r iht ihr =>
    intro p m s hx h
    simp only [Blk.run]
    split
    · exact h
    · exact ihr _ _ _ (fun y hy => hx y (by simp [Blk.flat, hy])) (iht _ _ _ (fun y hy => hx y (by simp [Blk.flat, hy])) h)
  | ife a t e r iht ihe ihr =>
    intro p m s hx h
    simp only [Blk.run]
    split
    · exact h
    · exact ihr _ _ _ (fun y hy => hx y (by simp [Blk.flat, hy])) (ihe _ _ _ (fun y hy => hx y (by simp [Blk.flat, hy])) (iht _ _ _ (fun y hy => hx y (by simp [Blk.flat, hy])) h))
  | loop a c t r iht ihr =>
    intro p m s hx h
    simp only [Blk.run]
    split
    · exact h
    · exact ihr _ _ _ (fun y hy => hx y (by simp [Blk.flat, hy])) (turns_zeroR (fun m s h => iht _ _ _ (fun y hy => hx y (by simp [Blk.flat, hy])) h) a _ _ _ h)
/-- THE LAW: a register that is not used is 0 in all lanes after a run. -/
theorem used_law {l : List Cd} (h : pv l = true) {q : Nat} (hq : (usedOf l).testBit q = false) (n : Nat) (m : List Int) (k : Nat) : rg ((lockS l n m).regs.getD k []) q = 0 := by
  obtain ⟨-, e⟩ := treeOf_spec h
  have hw : ∀ x ∈ l, (reads x ||| wset x).testBit q = false := by
    intro x hx
    have key : ∀ (l : List Cd) (s : Nat), (l.foldl (fun s x => s ||| (reads x ||| wset x)) s).testBit q = false → s.testBit q = false ∧ ∀ x ∈ l, (reads x ||| wset x).testBit q = false := by
      intro l
      induction l with
      | nil => exact fun s h => ⟨h, by simp⟩
      | cons y l ih =>
        intro s h
        obtain ⟨h1, h2⟩ := ih _ h
        rw [Nat.testBit_or, Bool.or_eq_false_iff] at h1
        refine ⟨h1.1, fun z hz => ?_⟩
        rcases List.mem_cons.1 hz with rfl | hz
        · exact h1.2
        · exact h2 z hz
    exact (key l 0 hq).2 x hx
  have hn : ∀ x ∈ (treeOf l).flat, noW q x := by
    rw [e]
    intro x hx h1 h8
    have hv := pv_all h x hx
    have ha := cvOk_a hv
    refine ⟨ha.1, fun e => ?_⟩
    have := hw x hx
    rw [Nat.testBit_or, Bool.or_eq_false_iff] at this
    have h3 := this.2
    unfold wset at h3
    rw [if_pos (by rw [hv, Bool.true_and]; exact inR_iff.2 ⟨h1, h8⟩)] at h3
    have : x.a.toNat = q := by omega
    rw [this] at h3
    simp at h3
  refine run_zeroR (by omega) _ 0 _ _ hn (fun k => ?_) k
  by_cases hk : k < n
  · have e2 : (LS.start n m).regs.getD k [] = [0, 0, 0, 0] := by simp [LS.start, List.getD_eq_getElem?_getD, hk]
    rw [e2]
    unfold rg
    rw [List.getD_eq_getElem?_getD]
    have : q = 0 ∨ q = 1 ∨ q = 2 ∨ q = 3 ∨ 4 ≤ q := by omega
    rcases this with rfl | rfl | rfl | rfl | h4
    · rfl
    · rfl
    · rfl
    · rfl
    · rw [List.getElem?_eq_none (by simp; omega)]
      rfl
  · have e2 : (LS.start n m).regs.getD k [] = [] := by simp [LS.start, List.getD_eq_getElem?_getD, hk]
    rw [e2]
    rfl
end Go.Proofs.Ytcpjhlkcfohkiaa
