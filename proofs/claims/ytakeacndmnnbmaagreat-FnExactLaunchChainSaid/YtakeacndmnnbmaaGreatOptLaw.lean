/- Picks take no more steps; optimized programs: plain Lean, no program in sight. -/
import Derived.Test.YtakeacndmnnbmaaGreatDeadLaw
namespace Go.Proofs.YtakeacndmnnbmaaGreat
set_option linter.unusedVariables false
set_option linter.unusedSimpArgs false

def SE (g h : GS) : Prop := SameB g h ∧ h.ev.length ≤ g.ev.length
theorem SE.on {g h : GS} (k : SE g h) (x y : Cd) (m : Nat) (hx : x.op ≠ 10) (hy : y.op ≠ 10) : SE (g.on x m) (h.on y m) :=
  ⟨k.1.on x y m hx hy, by have := k.2; simp only [GS.on, List.length_append, List.length_singleton]; omega⟩
theorem SE.turns {f f' : Nat → GS → GS} (hf : ∀ m g h, m < 2 ^ 8 → SE g h → SE (f m g) (f' m h)) (a : Int) : ∀ (b m : Nat) (g h : GS), m < 2 ^ 8 → SE g h → SE (turnsG f a b m g) (turnsG f' a b m h)
  | 0, _, _, _, _, k => k
  | b + 1, m, g, h, hm, k => by
    simp only [turnsG]
    rw [← k.1.1]
    have hlt := onesOf_lt (n := 8) hm (by omega) a g.s
    exact SE.turns hf a b _ _ _ hlt (hf _ _ _ hlt k)
theorem picks_se (b : Blk) : ∀ (d m : Nat) (g h : GS), b.ok d → m < 2 ^ 8 → SE g h → SE (b.go m g) (b.picks.go m h) := by
  induction b with
  | nil => intro d m g h _ _ k; exact k
  | op x r ih =>
    intro d m g h ⟨_, _, _, hr⟩ hm k
    simp only [Blk.picks, Blk.go]
    split
    · exact k
    · refine ih d _ _ _ hr hm ⟨⟨by rw [k.1.1], ?_⟩, ?_⟩
      · have := k.1.2
        simp only [barr] at this
        simp only [barr, List.filter_append, this]
      · have := k.2
        simp only [List.length_append, List.length_singleton]; omega
  | iff a t r iht ihr =>
    intro d m g h ⟨_, _, ht, hr⟩ hm k
    simp only [Blk.picks]
    split
    · rename_i y hy
      obtain ⟨rfl, h5⟩ := mvOf_some hy
      simp only [Blk.go]
      split
      · exact k
      · refine ihr d _ _ _ hr hm ?_
        rw [pick_exec h5 a hm, ← k.1.1]
        split
        · rename_i h0
          rw [h0, execM_zero (by omega)]
          have := k.1.on (cIf a) ⟨7, y.a, y.b, a⟩ m (by simp [cIf]) (by simp)
          refine ⟨⟨this.1.trans k.1.1.symm ▸ rfl, this.2⟩, ?_⟩
          have := k.2
          simp only [GS.on, List.length_append, List.length_singleton]; omega
        · have := k.1.on (cIf a) ⟨7, y.a, y.b, a⟩ m (by simp [cIf]) (by simp)
          refine ⟨⟨rfl, ?_⟩, ?_⟩
          · have e5 : (y.op == 10) = false := by rw [h5]; rfl
            have e7 := this.2
            simp only [GS.on] at e7
            simp only [GS.on, barr, List.filter_append, List.filter_cons, e5] at e7 ⊢
            simpa [barr] using e7
          · have := k.2
            simp only [GS.on, List.length_append, List.length_singleton]; omega
    · simp only [Blk.go]
      split
      · exact k
      · refine ihr d _ _ _ hr hm ?_
        rw [← k.1.1]
        exact iht _ _ _ _ ht (onesOf_lt hm (by omega) a g.s) (k.on _ _ _ (by simp [cIf]) (by simp [cIf]))
  | ife a t e r iht ihe ihr =>
    intro d m g h ⟨_, _, ht, he, hr⟩ hm k
    simp only [Blk.picks, Blk.go]
    split
    · exact k
    · refine ihr d _ _ _ hr hm ?_
      rw [← k.1.1]
      exact ihe _ _ _ _ he (mdiff_lt hm) (iht _ _ _ _ ht (onesOf_lt hm (by omega) a g.s) (k.on _ _ _ (by simp [cIf]) (by simp [cIf])))
  | loop a c t r iht ihr =>
    intro d m g h ⟨_, _, _, ht, hr⟩ hm k
    simp only [Blk.picks, Blk.go]
    split
    · exact k
    · refine ihr d _ _ _ hr hm ?_
      exact SE.turns (f := fun m g => t.go m g) (f' := fun m g => t.picks.go m g) (fun m g h hm k => iht _ _ _ _ ht hm k) a _ _ _ _ hm (k.on _ _ _ (by simp [cLoop]) (by simp [cLoop]))
theorem picks_len {l : List Cd} (h : pv l = true) : (picked l).length ≤ l.length := by
  have := picked_length l
  omega
theorem picks_less {l : List Cd} (h : pv l = true) {n : Nat} (hn : 1 ≤ n ∧ n ≤ 8) {m : List Int} (hm : memOk m = true) : Less n m l (picked l) := by
  obtain ⟨h1, h2⟩ := treeOf_spec h
  obtain ⟨h3, h4, h5⟩ := tree_picked h
  have hk : SE (goS l n m) (goS (picked l) n m) := by
    rw [goS_tree h3 h4 h5]
    exact picks_se _ 3 _ _ _ h1 (mask_lt hn.2) ⟨⟨rfl, rfl⟩, Nat.le_refl _⟩
  exact same_less h h5 hn hm (picks_len h) hk.1 hk.2
theorem pack_less {l : List Cd} (h : pv l = true) {n : Nat} (hn : n ≤ 8) {m : List Int} : Less n m l (packL l) := by
  obtain ⟨h1, h2, h3, h4⟩ := packL_run h hn m
  exact ⟨packL_ok h, h1, by rw [h2, h4], by rw [h3], by rw [h3]; exact List.Sublist.refl _, by rw [h2]; exact Nat.le_refl _, by have := packL_len l; omega⟩
theorem opt_less {l : List Cd} (h : pv l = true) {n : Nat} (hn : 1 ≤ n ∧ n ≤ 8) {m : List Int} (hm : memOk m = true) : Less n m l (packL (dropDeadL (picked l))) := by
  have k1 := picks_less h hn hm
  have k2 := dropDead_less k1.ok hn hm
  exact (k1.trans k2).trans (pack_less k2.ok hn.2)

end Go.Proofs.YtakeacndmnnbmaaGreat
