/- Registers exchanged twice: plain Lean, no program in sight. -/
import Derived.Test.YtcpjhlkcfohkiaaSemRen
namespace Go.Proofs.Ytcpjhlkcfohkiaa
set_option linter.unusedVariables false
set_option linter.unusedSimpArgs false

theorem ren_ren (f g : Int → Int) (x : Cd) : ren f (ren g x) = ren (fun r => f (g r)) x := by
  have h := ren_op g x
  by_cases h1 : regsN x.op = 1
  · simp [ren, h1]
  · by_cases h2 : regsN x.op = 2
    · simp [ren, h2]
    · by_cases h3 : regsN x.op = 3
      · simp [ren, h3]
      · simp [ren, h1, h2, h3]
theorem ren_id (x : Cd) : ren (fun r => r) x = x := by
  unfold ren
  split
  · rfl
  split
  · rfl
  split <;> rfl
theorem regs_bd {x : Cd} (h : cvOk x = true) : (2 ≤ regsN x.op → 0 ≤ x.b ∧ x.b ≤ 3) := by
  intro h2
  have h3 : x.op = 3 ∨ x.op = 4 ∨ x.op = 5 ∨ x.op = 6 ∨ x.op = 7 ∨ x.op = 8 ∨ x.op = 9 := by
    rcases cvOk_forms h with h | h | h | h | h | h
    all_goals
      unfold regsN at h2
      repeat' split at h2
      all_goals first | omega | (simp_all; try omega)
  exact cvOk_b2 h h3
theorem swapTo_back : ∀ a b r : Fin 4, nm (swapTo a.val b.val) (nm (swapTo a.val b.val) r.val) = (r.val : Int) := by decide
theorem swapTo_comm : ∀ a b : Fin 4, swapTo (a.val : Int) (b.val : Int) = swapTo b.val a.val := by decide
theorem swapTo_self : ∀ a r : Fin 4, nm (swapTo (a.val : Int) (a.val : Int)) r.val = (r.val : Int) := by decide
theorem swap_names : ∀ a b : Fin 4, (∀ r : Fin 4, 0 ≤ nm (swapTo a.val b.val) r.val ∧ nm (swapTo a.val b.val) r.val ≤ 3) ∧ (∀ r q : Fin 4, nm (swapTo a.val b.val) r.val = nm (swapTo a.val b.val) q.val → r = q) := by decide
theorem fin4 {a : Int} (h0 : 0 ≤ a) (h3 : a ≤ 3) : ∃ n : Fin 4, a = n.val := ⟨⟨a.toNat, by omega⟩, by simp; omega⟩
theorem Names.swap {a b : Int} (ha : 0 ≤ a ∧ a ≤ 3) (hb : 0 ≤ b ∧ b ≤ 3) : Names (nm (swapTo a b)) := by
  obtain ⟨x, rfl⟩ := fin4 ha.1 ha.2
  obtain ⟨y, rfl⟩ := fin4 hb.1 hb.2
  obtain ⟨h1, h2⟩ := swap_names x y
  refine ⟨fun r r0 r3 => ?_, fun r q r0 r3 q0 q3 e => ?_⟩
  · obtain ⟨z, rfl⟩ := fin4 r0 r3
    exact h1 z
  · obtain ⟨z, rfl⟩ := fin4 r0 r3
    obtain ⟨u, rfl⟩ := fin4 q0 q3
    rw [h2 z u e]
theorem map_ren_id {l : List Cd} {f : Int → Int} (hl : ∀ x ∈ l, cvOk x = true) (hf : ∀ r, 0 ≤ r → r ≤ 3 → f r = r) : l.map (ren f) = l := by
  have : ∀ x ∈ l, ren f x = x := fun x hx => by
    have ho := hl x hx
    have h := ren_congr (f := f) (g := fun r => r) (x := x) (fun _ => hf _ (cvOk_a ho).1 (cvOk_a ho).2) (fun h => hf _ (regs_bd ho h).1 (regs_bd ho h).2) (fun _ => hf _ (cvOk_c ho).1 (cvOk_c ho).2)
    rw [h, ren_id]
  conv => rhs; rw [← List.map_id l]
  exact List.map_congr_left this
theorem swap_law {l : List Cd} {a b : Int} (h : swapL l a b ≠ []) : swapL (swapL l a b) a b = l ∧ swapL l b a = swapL l a b ∧ swapL l a a = l := by
  unfold swapL at h
  split at h
  · rename_i hc
    simp only [Bool.and_eq_true] at hc
    obtain ⟨hp, ha, hb⟩ := hc
    have ha' := inR_iff.1 ha
    have hb' := inR_iff.1 hb
    have hcv := pv_all hp
    have hN := (names_run (Names.swap ha' hb') hp).1
    obtain ⟨x, hx⟩ := fin4 ha'.1 ha'.2
    obtain ⟨y, hy⟩ := fin4 hb'.1 hb'.2
    have e : swapL l a b = l.map (ren (nm (swapTo a b))) := by simp [swapL, hp, ha, hb]
    refine ⟨?_, ?_, ?_⟩
    · rw [e]
      have : swapL (l.map (ren (nm (swapTo a b)))) a b = (l.map (ren (nm (swapTo a b)))).map (ren (nm (swapTo a b))) := by simp [swapL, hN, ha, hb]
      rw [this, List.map_map]
      have hf : (ren (nm (swapTo a b)) ∘ ren (nm (swapTo a b))) = ren (fun r => nm (swapTo a b) (nm (swapTo a b) r)) := by
        funext z
        exact ren_ren _ _ z
      rw [hf]
      refine map_ren_id hcv fun r r0 r3 => ?_
      obtain ⟨z, rfl⟩ := fin4 r0 r3
      rw [hx, hy]
      exact swapTo_back x y z
    · rw [e]
      have : swapL l b a = l.map (ren (nm (swapTo b a))) := by simp [swapL, hp, ha, hb]
      rw [this, hx, hy, swapTo_comm x y]
    · have : swapL l a a = l.map (ren (nm (swapTo a a))) := by simp [swapL, hp, ha]
      rw [this]
      refine map_ren_id hcv fun r r0 r3 => ?_
      obtain ⟨z, rfl⟩ := fin4 r0 r3
      rw [hx]
      exact swapTo_self x z
  · exact absurd rfl h
end Go.Proofs.Ytcpjhlkcfohkiaa
