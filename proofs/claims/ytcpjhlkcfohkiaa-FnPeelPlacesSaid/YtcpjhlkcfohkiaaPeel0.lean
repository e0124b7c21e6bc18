/- Taking the first turn of a loop out of it: plain Lean, no program in sight. -/
import Derived.Test.YtcpjhlkcfohkiaaSyn
namespace Go.Proofs.Ytcpjhlkcfohkiaa
set_option linter.unusedVariables false
set_option linter.unusedSimpArgs false

theorem pvStep_len {s t : List Int} {x : Cd} (h : pvStep s x = some t) :
    (opB x = true ∧ t = x.op :: s) ∨ (opB x = false ∧ x.op = 12 ∧ t.length = s.length ∧ 0 < s.length) ∨ (opB x = false ∧ x.op = 14 ∧ s.length = t.length + 1) ∨ (opB x = false ∧ x.op ≠ 12 ∧ x.op ≠ 14 ∧ t = s) := by
  unfold pvStep at h
  split at h
  · split at h
    · rename_i ho
      split at h
      · injection h with h
        exact .inl ⟨ho, h.symm⟩
      · cases h
    · rename_i ho
      have ho' : opB x = false := by simpa [opB] using ho
      split at h
      · rename_i h2
        split at h
        · cases h
        · split at h
          · injection h with h
            subst h
            exact .inr (.inl ⟨ho', beq_iff_eq.1 h2, by simp, by simp⟩)
          · cases h
      · rename_i h2
        split at h
        · rename_i h3
          split at h
          · cases h
          · injection h with h
            subst h
            exact .inr (.inr (.inl ⟨ho', beq_iff_eq.1 h3, by simp⟩))
        · rename_i h3
          injection h with h
          refine .inr (.inr (.inr ⟨ho', ?_, ?_, h.symm⟩))
          · simpa using h2
          · simpa using h3
  · cases h

/-- An open block of a valid program has its end. -/
theorem scanE_hit : ∀ (r : List Cd) (s : List Int) (k d : Nat) (o : Int), pvRun s r = some [] → d < s.length → ∃ e : Nat, (scanE r k d o).1 = (e : Int) ∧ k ≤ e ∧ e < k + r.length
  | [], s, k, d, o, h, hd => by
    simp [pvRun] at h
    subst h
    simp at hd
  | x :: r, s, k, d, o, h, hd => by
    simp only [pvRun] at h
    cases hs : pvStep s x with
    | none => rw [hs] at h; cases h
    | some t =>
      rw [hs] at h
      simp only at h
      simp only [List.length_cons]
      rcases pvStep_len hs with ⟨ho, rfl⟩ | ⟨ho, h12, hl, _⟩ | ⟨ho, h14, hl⟩ | ⟨ho, h12, h14, rfl⟩
      · rw [scanE_cons_open ho]
        obtain ⟨e, h1, h2, h3⟩ := scanE_hit r _ (k + 1) (d + 1) o h (by simp; omega)
        exact ⟨e, h1, by omega, by omega⟩
      · rw [scanE_else' h12]
        obtain ⟨e, h1, h2, h3⟩ := scanE_hit r _ (k + 1) d (if d = 0 then (k : Int) else o) h (by omega)
        exact ⟨e, h1, by omega, by omega⟩
      · cases d with
        | zero =>
          rw [scanE_end0' h14]
          exact ⟨k, rfl, Nat.le_refl _, by omega⟩
        | succ d =>
          rw [scanE_end' h14]
          obtain ⟨e, h1, h2, h3⟩ := scanE_hit r _ (k + 1) d o h (by omega)
          exact ⟨e, h1, by omega, by omega⟩
      · rw [scanE_same' ho h12 h14]
        obtain ⟨e, h1, h2, h3⟩ := scanE_hit r _ (k + 1) d o h hd
        exact ⟨e, h1, by omega, by omega⟩

theorem end_bound {l : List Cd} (h : pv l = true) {k : Nat} {x : Cd} (hx : l[k]? = some x) (ho : opB x = true) :
    ∃ e : Nat, (endOf l k).1 = (e : Int) ∧ k + 1 ≤ e ∧ e < l.length := by
  have hp := (pv_iff.1 h).2
  have hk : k < l.length := (List.getElem?_eq_some_iff.1 hx).1
  rw [← List.take_append_drop k l, pvRun_append] at hp
  cases hs : pvRun [] (l.take k) with
  | none => rw [hs] at hp; cases hp
  | some s =>
    rw [hs, drop_get hx] at hp
    simp only [pvRun] at hp
    cases ht : pvStep s x with
    | none => rw [ht] at hp; cases hp
    | some t =>
      rw [ht] at hp
      simp only at hp
      rcases pvStep_len ht with ⟨_, rfl⟩ | ⟨h0, _⟩ | ⟨h0, _⟩ | ⟨h0, _⟩
      · obtain ⟨e, h1, h2, h3⟩ := scanE_hit _ _ (k + 1) 0 (-1) hp (by simp)
        refine ⟨e, h1, h2, ?_⟩
        simp at h3
        omega
      all_goals (rw [ho] at h0; cases h0)

/-- The end of the block at k. -/
def pEnd (l : List Cd) (k : Nat) : Nat := (endOf l k).1.toNat
theorem pEnd_bound {l : List Cd} (h : pv l = true) {k : Nat} {x : Cd} (hx : l[k]? = some x) (ho : opB x = true) :
    (endOf l k).1 = (pEnd l k : Int) ∧ k + 1 ≤ pEnd l k ∧ pEnd l k < l.length := by
  obtain ⟨e, h1, h2, h3⟩ := end_bound h hx ho
  have : pEnd l k = e := by simp [pEnd, h1]
  rw [this]
  exact ⟨h1, h2, h3⟩

def bodyL (l : List Cd) (k : Nat) : List Cd := (l.drop (k + 1)).take (pEnd l k - (k + 1))
/-- The program with the first turn of the loop at k taken out. -/
def peelOut (l : List Cd) (k : Nat) : List Cd :=
  l.take k ++ [cIf (cdAt l k).a] ++ bodyL l k ++ (if 1 < (cdAt l k).b then [cLoop (cdAt l k).a ((cdAt l k).b - 1)] ++ bodyL l k ++ [cEnd] else []) ++ l.drop (pEnd l k)
def peelOk (l : List Cd) (at' : Int) : Bool := inR at' 0 ((l.length : Int) - 1) && ((cdAt l at'.toNat).op == 13 && pv (peelOut l at'.toNat))
def peelR (l : List Cd) (at' : Int) : List Cd := if pv l then (if peelOk l at' then peelOut l at'.toNat else l) else []
def peelB (l : List Cd) (at' : Int) : Bool := pv l && peelOk l at'

theorem bodyL_len {l : List Cd} {k : Nat} : (bodyL l k).length ≤ l.length := by
  simp [bodyL]; omega
theorem peelOut_len (l : List Cd) (k : Nat) : (peelOut l k).length ≤ 4 * l.length + 3 := by
  have h1 : (bodyL l k).length ≤ l.length := bodyL_len
  unfold peelOut
  split <;> simp only [List.length_append, List.length_take, List.length_drop, List.length_cons, List.length_nil] <;> omega
theorem peelR_len {l : List Cd} {a : Int} : (peelR l a).length ≤ 40 := by
  unfold peelR
  split
  · rename_i h
    split
    · rename_i h2
      simp only [peelOk, Bool.and_eq_true] at h2
      exact (pv_iff.1 h2.2.2).1
    · exact (pv_iff.1 h).1
  · simp
theorem peelR_ok {l : List Cd} {a : Int} (h : pv l = true) : pv (peelR l a) = true := by
  unfold peelR
  rw [if_pos h]
  split
  · rename_i h2
    simp only [peelOk, Bool.and_eq_true] at h2
    exact h2.2.2
  · exact h
/-- The places whose loops can be peeled, up to n. -/
def peelPl (l : List Cd) (n : Nat) : List Int := ((List.range n).filter fun k : Nat => peelB l (k : Int)).map fun (k : Nat) => (k : Int)
theorem peelPl_yes {l : List Cd} {k : Nat} (h : peelB l (k : Int) = true) : peelPl l (k + 1) = peelPl l k ++ [(k : Int)] := by
  simp [peelPl, List.range_succ, List.filter_append, h]
theorem peelPl_no {l : List Cd} {k : Nat} (h : peelB l (k : Int) = false) : peelPl l (k + 1) = peelPl l k := by
  simp [peelPl, List.range_succ, List.filter_append, h]
theorem peelPl_len (l : List Cd) (k : Nat) : (peelPl l k).length ≤ k := by
  have := List.length_filter_le (fun k : Nat => peelB l (k : Int)) (List.range k)
  simp only [peelPl, List.length_map]
  simpa using this
theorem peelPl_bad {l : List Cd} (h : pv l = false) (k : Nat) : peelPl l k = [] := by
  simp [peelPl, peelB, h]
theorem peelPl_mem {l : List Cd} {n : Nat} {a : Int} (h : a ∈ peelPl l n) : 0 ≤ a ∧ a < n ∧ peelB l a = true := by
  simp only [peelPl, List.mem_map, List.mem_filter, List.mem_range] at h
  obtain ⟨k, ⟨h1, h2⟩, rfl⟩ := h
  exact ⟨by omega, by omega, h2⟩
/-- Peeled t times, always at the first place. -/
def peelN (l : List Cd) : Nat → List Cd
  | 0 => l
  | t + 1 => match peelPl l l.length with
    | [] => l
    | a :: _ => peelN (peelR l a) t
def peelSomeL (l : List Cd) (t : Int) : List Cd := if pv l && inR t 0 40 then peelN l t.toNat else []
end Go.Proofs.Ytcpjhlkcfohkiaa
