/- A program in a block that all lanes enter: plain Lean. -/
import Derived.Test.YtoiihjbdcjllbaaDeadLaw2
import Derived.ProofKit
namespace Go.Proofs.Ytoiihjbdcjllbaa
open Go.RowKit
set_option linter.unusedVariables false
set_option linter.unusedSimpArgs false

abbrev L7 : Nat → Nat := fun _ => 7
theorem turns7 {n : Nat} (n8 : n ≤ 8) {f f' : Nat → GS → GS} {a : Int} (ha : 0 ≤ a ∧ a ≤ 3) (h7 : (7 : Nat).testBit a.toNat = true) (hf : ∀ (m : Nat) (g h : GS), m < 2 ^ n → LR n L7 g h → LR n L7 (f m g) (f' m h)) :
    ∀ (b m : Nat) (g h : GS), m < 2 ^ n → LR n L7 g h → LR n L7 (turnsG f a b m g) (turnsG f' a b m h)
  | 0, _, _, _, _, k => k
  | b + 1, m, g, h, hm, k => by
    have e := k.ones n8 ha hm (fun _ _ _ => h7)
    simp only [turnsG]
    rw [e]
    have hlt := onesOf_lt hm n8 a g.s
    exact turns7 n8 ha h7 hf b _ _ _ hlt (hf _ _ _ hlt k)
theorem go7 {n : Nat} (n8 : n ≤ 8) (b : Blk) : ∀ (d m : Nat) (g h : GS), b.ok d → (∀ x ∈ b.flat, sub (reads x) 7) → m < 2 ^ n → LR n L7 g h → LR n L7 (b.go m g) (b.go m h) := by
  induction b with
  | nil => intro d m g h _ _ _ k; exact k
  | op x r ih =>
    intro d m g h ⟨hv, ho1, ho, hr⟩ hu hm k
    simp only [Blk.go]
    split
    · exact k
    · refine ih d m _ _ hr (fun y hy => hu y (by simp [Blk.flat, hy])) hm ?_
      have := (k.q.execM n8 hv ho (S := 7) (S' := 7) hm (fun _ _ _ => rfl) (hu x (by simp [Blk.flat])) (fun i hi => by rw [testBit_mdiff] at hi; simp only [Bool.and_eq_true] at hi; exact hi.1)).r (e := g.ev ++ [(x, m)]) (f := h.ev ++ [(x, m)]) (by rw [barr_snoc, barr_snoc, k.br]) (by have := k.el; simp; omega)
      exact this.mono fun j _ => by simp; exact sub.refl _
  | iff a t r iht ihr =>
    intro d m g h ⟨ha, hd1, ht, hr⟩ hu hm k
    simp only [Blk.go]
    split
    · exact k
    · have hv : cvOk (cIf a) = true := by rw [cvOk_if]; exact inR_iff.2 ha
      have h7 : (7 : Nat).testBit a.toNat = true := by
        have := hu (cIf a) (by simp [Blk.flat])
        have e : reads (cIf a) = 2 ^ a.toNat := by unfold reads; rw [if_pos hv]; rfl
        rw [e] at this
        exact bit_sub this
      have e := k.ones n8 ha hm (fun _ _ _ => h7)
      rw [e]
      exact ihr d m _ _ hr (fun y hy => hu y (by simp [Blk.flat, hy])) hm (iht _ _ _ _ ht (fun y hy => hu y (by simp [Blk.flat, hy])) (onesOf_lt hm n8 a g.s) (k.on (cIf a) m))
  | ife a t e r iht ihe ihr =>
    intro d m g h ⟨ha, hd1, ht, he, hr⟩ hu hm k
    simp only [Blk.go]
    split
    · exact k
    · have hv : cvOk (cIf a) = true := by rw [cvOk_if]; exact inR_iff.2 ha
      have h7 : (7 : Nat).testBit a.toNat = true := by
        have := hu (cIf a) (by simp [Blk.flat])
        have e : reads (cIf a) = 2 ^ a.toNat := by unfold reads; rw [if_pos hv]; rfl
        rw [e] at this
        exact bit_sub this
      have e := k.ones n8 ha hm (fun _ _ _ => h7)
      rw [e]
      exact ihr d m _ _ hr (fun y hy => hu y (by simp [Blk.flat, hy])) hm (ihe _ _ _ _ he (fun y hy => hu y (by simp [Blk.flat, hy])) (mdiff_lt hm) (iht _ _ _ _ ht (fun y hy => hu y (by simp [Blk.flat, hy])) (onesOf_lt hm n8 a g.s) (k.on (cIf a) m)))
  | loop a c t r iht ihr =>
    intro d m g h ⟨ha, hc, hd1, ht, hr⟩ hu hm k
    simp only [Blk.go]
    split
    · exact k
    · have hv : cvOk (cLoop a c) = true := by rw [cvOk_loop, inR_iff.2 ha, inR_iff.2 hc]; rfl
      have h7 : (7 : Nat).testBit a.toNat = true := by
        have := hu (cLoop a c) (by simp [Blk.flat])
        have e : reads (cLoop a c) = 2 ^ a.toNat := by unfold reads; rw [if_pos hv]; rfl
        rw [e] at this
        exact bit_sub this
      exact ihr d m _ _ hr (fun y hy => hu y (by simp [Blk.flat, hy])) hm (turns7 n8 ha h7 (fun m g h hm k => iht _ m g h ht (fun y hy => hu y (by simp [Blk.flat, hy])) hm k) _ _ _ _ hm (k.on (cLoop a c) m))
def cSet3 : Cd := ⟨1, 3, 1, 0⟩
def wrapL (l : List Cd) : List Cd := cSet3 :: cIf 3 :: (l ++ [cEnd])
theorem set3 (m : List Int) : ∀ n : Nat, 1 ≤ n → n ≤ 8 → execM cSet3 (2 ^ n - 1) (LS.start n m) = ⟨List.replicate n [0, 0, 0, 1], m, [], [], 0⟩ ∧ onesOf (2 ^ n - 1) 3 ⟨List.replicate n [0, 0, 0, 1], m, [], [], 0⟩ = 2 ^ n - 1
  | 0, h, _ => by omega
  | 1, _, _ => ⟨by kernel_rfl, by kernel_rfl⟩
  | 2, _, _ => ⟨by kernel_rfl, by kernel_rfl⟩
  | 3, _, _ => ⟨by kernel_rfl, by kernel_rfl⟩
  | 4, _, _ => ⟨by kernel_rfl, by kernel_rfl⟩
  | 5, _, _ => ⟨by kernel_rfl, by kernel_rfl⟩
  | 6, _, _ => ⟨by kernel_rfl, by kernel_rfl⟩
  | 7, _, _ => ⟨by kernel_rfl, by kernel_rfl⟩
  | 8, _, _ => ⟨by kernel_rfl, by kernel_rfl⟩
  | n + 9, _, h => by omega
theorem used_sub {l : List Cd} (h : (usedOf l).testBit 3 = false) : ∀ x ∈ l, sub (reads x) 7 := by
  intro x hx i hi
  have key : ∀ (m : List Cd) (s : Nat), sub s (m.foldl (fun s x => s ||| (reads x ||| wset x)) s) ∧ ∀ y ∈ m, sub (reads y) (m.foldl (fun s x => s ||| (reads x ||| wset x)) s) := by
    intro m
    induction m with
    | nil => intro s; exact ⟨sub.refl _, fun y hy => by cases hy⟩
    | cons z m ih =>
      intro s
      obtain ⟨h1, h2⟩ := ih (s ||| (reads z ||| wset z))
      refine ⟨(sub_or_left _ _).trans h1, fun y hy => ?_⟩
      rcases List.mem_cons.1 hy with rfl | hy
      · exact ((sub_or_left _ _).trans (sub_or_right _ _)).trans h1
      · exact h2 y hy
  have h1 : (usedOf l).testBit i = true := (key l 0).2 x hx i hi
  have h16 := reads_lt x
  have hlt : i < 4 := by
    refine Nat.lt_of_not_le fun h4 => ?_
    have : (reads x).testBit i = false := testBit_high (n := 4) (by omega) h4
    rw [this] at hi; cases hi
  have h3 : i ≠ 3 := fun e => by rw [e, h] at h1; cases h1
  have : i = 0 ∨ i = 1 ∨ i = 2 := by omega
  rcases this with rfl | rfl | rfl <;> rfl
theorem wrap_less {l : List Cd} (hp : pv l = true) (hy : pv (wrapL l) = true) (hu : (usedOf l).testBit 3 = false) {n : Nat} (hn : 1 ≤ n ∧ n ≤ 8) {m : List Int} (hm : memOk m = true) : Less n m (wrapL l) l := by
  obtain ⟨h1, h2⟩ := treeOf_spec hp
  have hb : (Blk.op cSet3 (.iff 3 (treeOf l) .nil)).ok 4 := ⟨by decide +kernel, by decide, by decide, ⟨by decide, by decide⟩, by decide, h1, trivial⟩
  have hfl : (Blk.op cSet3 (.iff 3 (treeOf l) .nil)).flat = wrapL l := by simp [Blk.flat, h2, wrapL]
  have hk : 2 ^ n - 1 ≠ 0 := by
    have : 2 ^ 1 ≤ 2 ^ n := Nat.pow_le_pow_right (by decide) hn.1
    omega
  have hlt : 2 ^ n - 1 < 2 ^ n := by have : 0 < 2 ^ n := Nat.pow_pos (by decide); omega
  obtain ⟨e1, e2⟩ := set3 m n hn.1 hn.2
  have hgo : goS (wrapL l) n m = (treeOf l).go (2 ^ n - 1) ⟨⟨List.replicate n [0, 0, 0, 1], m, [], [], 0⟩, [(cSet3, 2 ^ n - 1), (cIf 3, 2 ^ n - 1)]⟩ := by
    rw [goS_tree' hb hfl hy]
    simp only [Blk.go, if_neg hk, e1, GS.on, e2]
    rfl
  have hst : LR n L7 ⟨⟨List.replicate n [0, 0, 0, 1], m, [], [], 0⟩, [(cSet3, 2 ^ n - 1), (cIf 3, 2 ^ n - 1)]⟩ ⟨LS.start n m, []⟩ := by
    have e : (LS.start n m).regs.length = n := by simp [LS.start]
    refine ⟨by simp, e, fun k hk => ?_, rfl, rfl, rfl, List.Sublist.refl _, rfl, by simp⟩
    have r1 : (List.replicate n [(0 : Int), 0, 0, 1]).getD k [] = [0, 0, 0, 1] := by simp [List.getD_eq_getElem?_getD, hk]
    have r2 : (LS.start n m).regs.getD k [] = [0, 0, 0, 0] := by simp [LS.start, List.getD_eq_getElem?_getD, hk]
    show Ag 7 ((List.replicate n [(0 : Int), 0, 0, 1]).getD k []) ((LS.start n m).regs.getD k [])
    rw [r1, r2]
    refine ⟨rfl, rfl, fun i i0 i3 hi => ?_⟩
    have : i = 0 ∨ i = 1 ∨ i = 2 ∨ i = 3 := by omega
    rcases this with rfl | rfl | rfl | rfl
    · rfl
    · rfl
    · rfl
    · exact absurd hi (by decide)
  have R := go7 hn.2 (treeOf l) 3 (2 ^ n - 1) _ _ h1 (by rw [h2]; exact used_sub hu) hlt hst
  rw [← hgo] at R
  have e0 : (treeOf l).go (2 ^ n - 1) ⟨LS.start n m, []⟩ = goS l n m := rfl
  rw [e0] at R
  exact less_of hy hp hn hm (by simp [wrapL]; omega) R.mem R.wr R.al R.br R.el
theorem wrap_pv {l : List Cd} (h : pv (cIf 3 :: (l ++ [cEnd])) = true) (h40 : (wrapL l).length ≤ 40) : pv (wrapL l) = true := by
  refine pv_iff.2 ⟨h40, ?_⟩
  have e : pvRun [] (wrapL l) = pvRun [] (cIf 3 :: (l ++ [cEnd])) := by
    have e1 : pvStep [] cSet3 = some [] := by decide +kernel
    unfold wrapL
    conv => lhs; unfold pvRun
    rw [e1]
  rw [e]
  exact (pv_iff.1 h).2

end Go.Proofs.Ytoiihjbdcjllbaa
