/- Names of registers: plain Lean, no program in sight. -/
import Derived.Test.YtfpecplpammhiaaStat
namespace Go.Proofs.Ytfpecplpammhiaa

/-- The new name of a register. -/
def nm (t : List Int) (r : Int) : Int := t.getD r.toNat 0
def orBits (xs : List Int) : Nat := xs.foldl (fun m x => m ||| 2 ^ x.toNat) 0
def allIn (xs : List Int) (n : Int) : Bool := xs.all fun x => inR x 0 (n - 1)
def maskOfI (xs : List Int) (n : Int) : Int := if inR n 1 8 && allIn xs n then (orBits xs : Int) else -1
def maskAllI (n : Int) : Int := if inR n 1 8 then 2 ^ n.toNat - 1 else -1
def nameOk (t : List Int) : Bool := t.length == 4 && maskOfI t 4 == 15
def renameL (l : List Cd) (t : List Int) : List Cd := if pv l && nameOk t then l.map (ren (nm t)) else []
def swapTo (a b : Int) : List Int := (([0, 1, 2, 3] : List Int).set a.toNat b).set b.toNat a
def swapL (l : List Cd) (a b : Int) : List Cd := if pv l && (inR a 0 3 && inR b 0 3) then l.map (ren (nm (swapTo a b))) else []

theorem orBits_take {xs : List Int} {k : Nat} {x : Int} (h : xs[k]? = some x) : orBits (xs.take (k + 1)) = orBits (xs.take k) ||| 2 ^ x.toNat := by
  obtain ⟨hk, rfl⟩ := List.getElem?_eq_some_iff.1 h
  unfold orBits
  rw [List.take_succ_eq_append_getElem hk, List.foldl_append]
  rfl
theorem allIn_take {xs : List Int} {k : Nat} {x n : Int} (h : xs[k]? = some x) : allIn (xs.take (k + 1)) n = (allIn (xs.take k) n && inR x 0 (n - 1)) := by
  obtain ⟨hk, rfl⟩ := List.getElem?_eq_some_iff.1 h
  unfold allIn
  rw [List.take_succ_eq_append_getElem hk, List.all_append]
  simp
theorem allIn_bad {xs : List Int} {k : Nat} {x n : Int} (h : xs[k]? = some x) (hb : inR x 0 (n - 1) = false) : allIn xs n = false := by
  cases ha : allIn xs n with
  | false => rfl
  | true =>
    have this : inR x 0 (n - 1) = true := List.all_eq_true.1 ha x (List.mem_of_getElem? h)
    rw [hb] at this
    cases this
theorem foldl_or_lt : ∀ (xs : List Int) (m : Nat), m < 256 → (∀ x ∈ xs, 0 ≤ x ∧ x ≤ 7) → xs.foldl (fun m x => m ||| 2 ^ x.toNat) m < 256
  | [], m, hm, _ => hm
  | x :: xs, m, hm, h => by
    refine foldl_or_lt xs _ ?_ (fun y hy => h y (List.mem_cons_of_mem _ hy))
    have hx := h x List.mem_cons_self
    exact Nat.or_lt_two_pow (n := 8) hm (Nat.pow_lt_pow_right (by decide) (by omega))
theorem orBits_lt {xs : List Int} {n : Int} (hn : n ≤ 8) (h : allIn xs n = true) : orBits xs < 256 := by
  refine foldl_or_lt xs 0 (by decide) fun x hx => ?_
  have := List.all_eq_true.1 h x hx
  simp only [inR_iff] at this
  omega

theorem nameOk_all {t : List Int} (h : nameOk t = true) : t.length = 4 ∧ ∀ x ∈ t, 0 ≤ x ∧ x ≤ 3 := by
  simp only [nameOk, Bool.and_eq_true, beq_iff_eq] at h
  refine ⟨h.1, fun x hx => ?_⟩
  have h2 := h.2
  unfold maskOfI at h2
  split at h2
  · rename_i h3
    simp only [Bool.and_eq_true] at h3
    have := List.all_eq_true.1 h3.2 x hx
    simp only [inR_iff] at this
    omega
  · omega

theorem ren_congr {f g : Int → Int} {x : Cd} (h1 : 1 ≤ regsN x.op → f x.a = g x.a) (h2 : 2 ≤ regsN x.op → f x.b = g x.b) (h3 : 3 ≤ regsN x.op → f x.c = g x.c) : ren f x = ren g x := by
  unfold ren
  split
  · rename_i h; simp at h; rw [h1 (by omega)]
  split
  · rename_i h; simp at h; rw [h1 (by omega), h2 (by omega)]
  split
  · rename_i h; simp at h; rw [h1 (by omega), h2 (by omega), h3 (by omega)]
  · rfl

/-! ### Packing -/
/-- The reference's table after i of 8 steps, with the next name. -/
def packSt (u : Nat) : Nat → Nat × List Int
  | 0 => (0, [0, 0, 0, 0])
  | i + 1 =>
    let s := packSt u i
    if (u >>> (i % 4)) % 2 = 1 - i / 4 then (s.1 + 1, s.2.set (i % 4) (s.1 : Int)) else s
/-- The program's table after i of 4 steps, with the next name. -/
def packSi (u : Nat) : Nat → Nat × List Int
  | 0 => (0, [0, 0, 0, 0])
  | i + 1 =>
    let s := packSi u i
    if (u >>> i) % 2 = 1 then (s.1 + 1, s.2.set i (s.1 : Int)) else s
def packL (l : List Cd) : List Cd := if pv l then l.map (ren (nm (packSi (usedOf l) 4).2)) else []

theorem packSt_ok : ∀ u : Fin 16, nameOk (packSt u 8).2 = true := by decide
theorem packSt_eq : ∀ (u : Fin 16) (r : Fin 4), (u.val >>> r.val) % 2 = 1 → (packSt u 8).2.getD r 0 = (packSi u 4).2.getD r 0 := by decide

theorem used_mem {l : List Cd} {x : Cd} (h : x ∈ l) : ∀ i, (reads x ||| wset x).testBit i = true → (usedOf l).testBit i = true := by
  unfold usedOf
  have key : ∀ (m : List Cd) (s : Nat) (i : Nat), (s.testBit i = true ∨ ∃ y ∈ m, (reads y ||| wset y).testBit i = true) → (m.foldl (fun s x => s ||| (reads x ||| wset x)) s).testBit i = true := by
    intro m
    induction m with
    | nil => intro s i h; rcases h with h | ⟨y, hy, _⟩; exact h; cases hy
    | cons y m ih =>
      intro s i h
      refine ih _ i ?_
      rcases h with h | ⟨z, hz, h⟩
      · exact .inl (by simp [Nat.testBit_or, h])
      · rcases List.mem_cons.1 hz with rfl | hz
        · exact .inl (by rw [Nat.testBit_or, h, Bool.or_true])
        · exact .inr ⟨z, hz, h⟩
  exact fun i hi => key l 0 i (.inr ⟨x, h, hi⟩)

/-- The registers of a valid instruction are read or written. -/
theorem regs_used {x : Cd} (hv : cvOk x = true) : (1 ≤ regsN x.op → (reads x ||| wset x).testBit x.a.toNat = true ∧ 0 ≤ x.a ∧ x.a ≤ 3) ∧
    (2 ≤ regsN x.op → (reads x ||| wset x).testBit x.b.toNat = true ∧ 0 ≤ x.b ∧ x.b ≤ 3) ∧ (3 ≤ regsN x.op → (reads x ||| wset x).testBit x.c.toNat = true ∧ 0 ≤ x.c ∧ x.c ≤ 3) := by
  have ha := cvOk_a hv
  have hc := cvOk_c hv
  have hb2 := cvOk_b2 hv
  have ho := cvOk_op hv
  obtain ⟨o, a, b, c⟩ := x
  simp only at *
  have h14 : o = 1 ∨ o = 2 ∨ o = 3 ∨ o = 4 ∨ o = 5 ∨ o = 6 ∨ o = 7 ∨ o = 8 ∨ o = 9 ∨ o = 10 ∨ o = 11 ∨ o = 12 ∨ o = 13 ∨ o = 14 := by omega
  rcases h14 with rfl | rfl | rfl | rfl | rfl | rfl | rfl | rfl | rfl | rfl | rfl | rfl | rfl | rfl <;>
    simp [regsN, reads, wset, hv, inR, Nat.testBit_or, Nat.testBit_two_pow_self, ha] <;> omega

theorem testBit_shr (u r : Nat) (h : u.testBit r = true) : (u >>> r) % 2 = 1 := by
  have h2 : (u >>> r).testBit 0 = true := by rw [Nat.testBit_shiftRight]; simpa using h
  rw [Nat.testBit_zero] at h2
  exact of_decide_eq_true h2

theorem pv_all {l : List Cd} (h : pv l = true) : ∀ x ∈ l, cvOk x = true := by
  have key : ∀ (m : List Cd) (s : List Int) (t : List Int), pvRun s m = some t → ∀ x ∈ m, cvOk x = true := by
    intro m
    induction m with
    | nil => intro s t _ x hx; cases hx
    | cons y m ih =>
      intro s t hr x hx
      simp only [pvRun] at hr
      split at hr
      · rename_i s' hs'
        rcases List.mem_cons.1 hx with rfl | hx
        · cases hv : cvOk x with
          | true => rfl
          | false => simp [pvStep, hv] at hs'
        · exact ih _ _ hr x hx
      · cases hr
  exact key l [] [] (pv_iff.1 h).2

/-- Both tables give the same program. -/
theorem pack_same {l : List Cd} (hp : pv l = true) : renameL l (packSt (usedOf l) 8).2 = packL l := by
  have hu := usedOf_lt l
  have hok := packSt_ok ⟨usedOf l, hu⟩
  simp only at hok
  simp only [renameL, packL, hp, hok, Bool.and_self, if_true]
  refine List.map_congr_left fun x hx => ?_
  obtain ⟨r1, r2, r3⟩ := regs_used (pv_all hp x hx)
  have key : ∀ z : Int, (reads x ||| wset x).testBit z.toNat = true ∧ 0 ≤ z ∧ z ≤ 3 → nm (packSt (usedOf l) 8).2 z = nm (packSi (usedOf l) 4).2 z := by
    intro z hz
    have h1 := testBit_shr _ _ (used_mem hx _ hz.1)
    exact packSt_eq ⟨usedOf l, hu⟩ ⟨z.toNat, by omega⟩ h1
  exact ren_congr (fun h => key _ (r1 h)) (fun h => key _ (r2 h)) (fun h => key _ (r3 h))

theorem swap_ok {a b : Int} (ha : 0 ≤ a ∧ a ≤ 3) (hb : 0 ≤ b ∧ b ≤ 3) : nameOk (swapTo a b) = true := by
  have h1 : a = 0 ∨ a = 1 ∨ a = 2 ∨ a = 3 := by omega
  have h2 : b = 0 ∨ b = 1 ∨ b = 2 ∨ b = 3 := by omega
  rcases h1 with rfl | rfl | rfl | rfl <;> rcases h2 with rfl | rfl | rfl | rfl <;> decide
theorem swap_rename (l : List Cd) (a b : Int) (h : (inR a 0 3 && inR b 0 3) = true) : renameL l (swapTo a b) = swapL l a b := by
  have h' := h
  simp only [Bool.and_eq_true, inR_iff] at h'
  simp only [renameL, swapL, swap_ok h'.1 h'.2, h]

theorem renameL_len (l : List Cd) (t : List Int) : (renameL l t).length ≤ l.length := by
  unfold renameL; split <;> simp
theorem swapL_len (l : List Cd) (a b : Int) : (swapL l a b).length ≤ l.length := by
  unfold swapL; split <;> simp
theorem packL_len (l : List Cd) : (packL l).length ≤ l.length := by
  unfold packL; split <;> simp
end Go.Proofs.Ytfpecplpammhiaa
