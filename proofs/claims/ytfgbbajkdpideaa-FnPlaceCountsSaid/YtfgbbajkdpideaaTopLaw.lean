/- A place in no block has one step: plain Lean, no program in sight. -/
import Derived.Test.YtfgbbajkdpideaaFlatLaw
import Derived.Test.YtfgbbajkdpideaaHotLaw
namespace Go.Proofs.Ytfgbbajkdpideaa
set_option linter.unusedVariables false
set_option linter.unusedSimpArgs false

theorem count_beat (p m k : Nat) (s : LS) : countAt (beat p m s).beats k = countAt s.beats k + (if p = k then 1 else 0) := by
  simp only [beat]; exact countAt_snoc _ _ _ _
theorem turns_out {f : Nat → LS → LS} {k : Nat} (hf : ∀ m s, countAt (f m s).beats k = countAt s.beats k) (a : Int) : ∀ (b m : Nat) (s : LS), countAt (turnsOf f a b m s).beats k = countAt s.beats k
  | 0, _, _ => rfl
  | b + 1, m, s => by simp only [turnsOf]; rw [turns_out hf a b, hf]
theorem run_out (b : Blk) : ∀ (p m : Nat) (s : LS) (k : Nat), (k < p ∨ p + b.flat.length ≤ k) → countAt (b.run p m s).beats k = countAt s.beats k := by
  induction b with
  | nil => intro p m s k _; rfl
  | op x r ih =>
    intro p m s k hk
    simp only [Blk.flat, List.length_cons] at hk
    simp only [Blk.run]
    split
    · rfl
    · rw [ih (p + 1) m _ k (by omega), execM_beats, count_beat, if_neg (by omega), Nat.add_zero]
  | iff a t r iht ihr =>
    intro p m s k hk
    simp only [Blk.flat, List.length_cons, List.length_append] at hk
    simp only [Blk.run]
    split
    · rfl
    · rw [ihr _ m _ k (by omega), iht _ _ _ k (by omega), count_beat, if_neg (by omega), Nat.add_zero]
  | ife a t e r iht ihe ihr =>
    intro p m s k hk
    simp only [Blk.flat, List.length_cons, List.length_append] at hk
    simp only [Blk.run]
    split
    · rfl
    · rw [ihr _ m _ k (by omega), ihe _ _ _ k (by omega), iht _ _ _ k (by omega), count_beat, if_neg (by omega), Nat.add_zero]
  | loop a c t r iht ihr =>
    intro p m s k hk
    simp only [Blk.flat, List.length_cons, List.length_append] at hk
    simp only [Blk.run]
    split
    · rfl
    · rw [ihr _ m _ k (by omega), turns_out (fun m s => iht (p + 1) m s k (by omega)) a, count_beat, if_neg (by omega), Nat.add_zero]
theorem in_block {l : List Cd} {b : Blk} {d p k : Nat} {rest : List Cd} (hb : b.ok d) (h : l.drop p = b.flat ++ rest) (hp : p ≤ l.length) (h0 : ∃ q : Nat, scanA l p 0 = (q : Int)) (h1 : p ≤ k) (h2 : k ≤ p + b.flat.length) : aroundOf l k ≠ -1 := by
  obtain ⟨q0, hq0⟩ := h0
  obtain ⟨i, rfl⟩ : ∃ i, k = p + i := ⟨k - p, by omega⟩
  unfold aroundOf
  rcases scanA_at b d p rest hb h hp i (by omega) with ⟨q, _, e⟩ | e
  · rw [e]; omega
  · rw [e, hq0]; omega
theorem run_top {l : List Cd} (b : Blk) : ∀ (d p m : Nat) (rest : List Cd) (s : LS), b.ok d → l.drop p = b.flat ++ rest → p ≤ l.length → m ≠ 0 → ∀ k, p ≤ k → k < p + b.flat.length → aroundOf l k = -1 → countAt (b.run p m s).beats k = countAt s.beats k + 1 := by
  induction b with
  | nil => intro d p m rest s _ _ _ _ k h1 h2; simp [Blk.flat] at h2; omega
  | op x r ih =>
    intro d p m rest s ⟨_, _, _, hr⟩ h hp hm k h1 h2 ha
    obtain ⟨k1, k2, k3⟩ := drop_cons (r := r.flat ++ rest) h
    simp only [Blk.flat, List.length_cons] at h2
    simp only [Blk.run, if_neg hm]
    by_cases e : k = p
    · subst e
      rw [run_out r (k + 1) m _ k (by omega), execM_beats, count_beat, if_pos rfl]
    · rw [ih d (p + 1) m rest _ hr k2 (by omega) hm k (by omega) (by omega) ha, execM_beats, count_beat, if_neg (by omega)]
  | iff a t r iht ihr =>
    intro d p m rest s ⟨hva, hd1, ht, hr⟩ h hp hm k h1 h2 ha
    have h' : l.drop p = cIf a :: (t.flat ++ cEnd :: (r.flat ++ rest)) := by rw [h]; simp [Blk.flat]
    obtain ⟨k1, k2, k3⟩ := drop_cons h'
    obtain ⟨_, _, h3⟩ := end_iff ht h'
    have hp2 : p + t.flat.length + 2 ≤ l.length := by
      have := congrArg List.length h'
      simp at this; omega
    simp only [Blk.flat, List.length_cons, List.length_append] at h2
    simp only [Blk.run, if_neg hm]
    by_cases e : k = p
    · subst e
      rw [run_out r _ m _ k (by omega), run_out t _ _ _ k (by omega), count_beat, if_pos rfl]
    · by_cases hin : k ≤ p + 1 + t.flat.length
      · exact absurd ha (in_block ht k2 (by omega) ⟨p, scanA_op0 k1 rfl⟩ (by omega) hin)
      · rw [ihr d _ m rest _ hr h3 hp2 hm k (by omega) (by omega) ha, run_out t _ _ _ k (by omega), count_beat, if_neg (by omega)]
  | ife a t e r iht ihe ihr =>
    intro d p m rest s ⟨hva, hd1, ht, he, hr⟩ h hp hm k h1 h2 ha
    have h' : l.drop p = cIf a :: (t.flat ++ cElse :: (e.flat ++ cEnd :: (r.flat ++ rest))) := by rw [h]; simp [Blk.flat]
    obtain ⟨k1, k2, k3⟩ := drop_cons h'
    obtain ⟨_, _, h3, h4⟩ := end_ife ht he h'
    have hlen : p + t.flat.length + e.flat.length + 3 ≤ l.length := by
      have := congrArg List.length h'
      simp at this; omega
    have hels := (drop_cons (drop_skip k2)).1
    have eels : scanA l (p + t.flat.length + 2) 0 = (p : Int) := by
      rw [show p + t.flat.length + 2 = p + 1 + t.flat.length + 1 by omega, scanA_nb hels rfl (by simp [cElse]), scanA_drop ht k2 (by omega)]
      exact scanA_op0 k1 rfl
    simp only [Blk.flat, List.length_cons, List.length_append] at h2
    simp only [Blk.run, if_neg hm]
    by_cases ek : k = p
    · subst ek
      rw [run_out r _ m _ k (by omega), run_out e _ _ _ k (by omega), run_out t _ _ _ k (by omega), count_beat, if_pos rfl]
    · by_cases hin : k ≤ p + 1 + t.flat.length
      · exact absurd ha (in_block ht k2 (by omega) ⟨p, scanA_op0 k1 rfl⟩ (by omega) hin)
      · by_cases hie : k ≤ p + t.flat.length + 2 + e.flat.length
        · exact absurd ha (in_block he h3 (by omega) ⟨p, eels⟩ (by omega) hie)
        · rw [ihr d _ m rest _ hr h4 hlen hm k (by omega) (by omega) ha, run_out e _ _ _ k (by omega), run_out t _ _ _ k (by omega), count_beat, if_neg (by omega)]
  | loop a c t r iht ihr =>
    intro d p m rest s ⟨hva, hc, hd1, ht, hr⟩ h hp hm k h1 h2 ha
    have h' : l.drop p = cLoop a c :: (t.flat ++ cEnd :: (r.flat ++ rest)) := by rw [h]; simp [Blk.flat]
    obtain ⟨k1, k2, k3⟩ := drop_cons h'
    obtain ⟨_, _, h3⟩ := end_iff ht h'
    have hp2 : p + t.flat.length + 2 ≤ l.length := by
      have := congrArg List.length h'
      simp at this; omega
    simp only [Blk.flat, List.length_cons, List.length_append] at h2
    simp only [Blk.run, if_neg hm]
    by_cases e : k = p
    · subst e
      rw [run_out r _ m _ k (by omega), turns_out (fun m s => run_out t (k + 1) m s k (by omega)) a, count_beat, if_pos rfl]
    · by_cases hin : k ≤ p + 1 + t.flat.length
      · exact absurd ha (in_block ht k2 (by omega) ⟨p, scanA_op0 k1 rfl⟩ (by omega) hin)
      · rw [ihr d _ m rest _ hr h3 hp2 hm k (by omega) (by omega) ha, turns_out (fun m s => run_out t (p + 1) m s k (by omega)) a, count_beat, if_neg (by omega)]
theorem top_count {l : List Cd} {n : Int} {m : List Int} (h : lockOk l n m = true) {k : Nat} (hk : k < l.length) (ha : aroundOf l k = -1) : countAt (traceOf l n m) k = 1 := by
  have hn := lock_n h
  obtain ⟨h1, h2⟩ := treeOf_spec hn.2.2.1
  have hm : 2 ^ n.toNat - 1 ≠ 0 := by
    have : 2 ^ 1 ≤ 2 ^ n.toNat := Nat.pow_le_pow_right (by decide) (by omega)
    omega
  have := run_top (l := l) (treeOf l) 3 0 (2 ^ n.toNat - 1) [] (LS.start n.toNat m) h1 (by simp [h2]) (Nat.zero_le _) hm k (Nat.zero_le _) (by rw [h2]; omega) ha
  unfold traceOf
  rw [if_pos h]
  show countAt ((treeOf l).run 0 (2 ^ n.toNat - 1) (LS.start n.toNat m)).beats k = 1
  rw [this]
  rfl
theorem counts_law {l : List Cd} {n : Int} {m : List Int} (h : lockOk l n m = true) : countsL l n m = countRow (traceOf l n m) l.length ∧ l.length ≤ 40 ∧ pv l = true ∧ (∀ k, k < l.length → aroundOf l k = -1 → countAt (traceOf l n m) k = 1) ∧ sumTo (countAt (traceOf l n m)) l.length = (traceOf l n m).length ∧
    (∀ k, k ≤ l.length → sumTo (countAt (traceOf l n m)) k ≤ 2560) ∧ ∀ k, countAt (traceOf l n m) k ≤ 2560 := by
  have hn := lock_n h
  have hs := sum_all (n := l.length) (bs := traceOf l n m) (fun q hq => (trace_in q hq).1)
  have ht := traceOf_len l n m
  refine ⟨by unfold countsL; rw [if_pos h], (pv_iff.1 hn.2.2.1).1, hn.2.2.1, fun k hk ha => top_count h hk ha, hs, fun k hk => ?_, fun k => ?_⟩
  · have : ∀ a b : Nat, a ≤ b → sumTo (countAt (traceOf l n m)) a ≤ sumTo (countAt (traceOf l n m)) b := by
      intro a b hab
      induction hab with
      | refl => exact Nat.le_refl _
      | step _ ih => exact Nat.le_trans ih (Nat.le_add_right _ _)
    have := this k l.length hk
    omega
  · have : countAt (traceOf l n m) k ≤ (traceOf l n m).length := List.length_filter_le _ _
    omega

end Go.Proofs.Ytfgbbajkdpideaa
