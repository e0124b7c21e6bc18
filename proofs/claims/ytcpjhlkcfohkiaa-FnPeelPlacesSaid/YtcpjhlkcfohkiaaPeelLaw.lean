/- A loop with one turn can always be peeled: plain Lean, no program in sight. -/
import Derived.Test.YtcpjhlkcfohkiaaPeel0
namespace Go.Proofs.Ytcpjhlkcfohkiaa
set_option linter.unusedVariables false
set_option linter.unusedSimpArgs false

def PR : List Int → List Int → Prop
  | [], [] => True
  | m :: s, m' :: s' => (m = m' ∨ (m = 13 ∧ m' = 11)) ∧ PR s s'
  | _, _ => False
theorem PR.refl : ∀ s, PR s s
  | [] => trivial
  | _ :: s => ⟨.inl rfl, PR.refl s⟩
theorem PR.len : ∀ {s s' : List Int}, PR s s' → s.length = s'.length
  | [], [], _ => rfl
  | _ :: s, _ :: s', h => by simp [PR.len h.2]
  | [], _ :: _, h => h.elim
  | _ :: _, [], h => h.elim
theorem pvStep_rel {s s' t : List Int} {x : Cd} (h : PR s s') (hs : pvStep s x = some t) : ∃ t', pvStep s' x = some t' ∧ PR t t' := by
  unfold pvStep at hs ⊢
  by_cases hv : cvOk x = true
  · simp only [hv, if_true] at hs ⊢
    by_cases h1 : (x.op == 11 || x.op == 13) = true
    · simp only [h1, if_true] at hs ⊢
      rw [← PR.len h]
      by_cases hl : s.length < 3
      · rw [if_pos hl] at hs ⊢
        injection hs with hs
        subst hs
        exact ⟨_, rfl, .inl rfl, h⟩
      · rw [if_neg hl] at hs
        cases hs
    · simp only [h1] at hs ⊢
      by_cases h2 : (x.op == 12) = true
      · simp only [h2, if_true] at hs ⊢
        match s, s', h, hs with
        | [], _, _, hs => simp at hs
        | _ :: _, [], h, _ => exact h.elim
        | m :: s, m' :: s', h, hs =>
          by_cases hm : m = 11
          · have hm' : m' = 11 := by
              rcases h.1 with e | ⟨e, e'⟩
              · rw [← e]; exact hm
              · exact e'
            simp [hm] at hs
            subst hs
            exact ⟨12 :: s', by simp [hm'], .inl rfl, h.2⟩
          · simp [hm] at hs
      · simp only [h2] at hs ⊢
        by_cases h3 : (x.op == 14) = true
        · simp only [h3, if_true] at hs ⊢
          match s, s', h, hs with
          | [], _, _, hs => simp at hs
          | _ :: _, [], h, _ => exact h.elim
          | m :: s, m' :: s', h, hs =>
            simp at hs
            subst hs
            exact ⟨s', by simp, h.2⟩
        · simp only [h3] at hs ⊢
          simp at hs ⊢
          subst hs
          exact h
  · simp [hv] at hs
theorem pvRun_rel : ∀ (l : List Cd) {s s' t : List Int}, PR s s' → pvRun s l = some t → ∃ t', pvRun s' l = some t' ∧ PR t t'
  | [], s, s', t, h, hs => by
    simp only [pvRun] at hs ⊢
    injection hs with hs
    subst hs
    exact ⟨s', rfl, h⟩
  | x :: l, s, s', t, h, hs => by
    simp only [pvRun] at hs ⊢
    cases hst : pvStep s x with
    | none => rw [hst] at hs; cases hs
    | some u =>
      rw [hst] at hs
      obtain ⟨u', e, hu⟩ := pvStep_rel h hst
      rw [e]
      exact pvRun_rel l hu hs
theorem set_split {l : List Cd} {k : Nat} {x : Cd} (hx : l[k]? = some x) (y : Cd) : l.set k y = l.take k ++ y :: l.drop (k + 1) := by
  have hk := (List.getElem?_eq_some_iff.1 hx).1
  have e1 : l = l.take k ++ x :: l.drop (k + 1) := by rw [← drop_get hx, List.take_append_drop]
  conv => lhs; rw [e1]
  rw [List.set_append]
  simp [List.length_take, Nat.min_eq_left (Nat.le_of_lt hk)]
theorem one_turn {l : List Cd} (h : pv l = true) {k : Nat} {x : Cd} (hx : l[k]? = some x) (ho : x.op = 13) : pv (l.set k (cIf x.a)) = true := by
  obtain ⟨h40, hp⟩ := pv_iff.1 h
  obtain ⟨hk, hxe⟩ := List.getElem?_eq_some_iff.1 hx
  refine pv_iff.2 ⟨by rw [List.length_set]; exact h40, ?_⟩
  have hv : cvOk x = true := pv_all h _ (List.mem_of_getElem? hx)
  have ha := cvOk_a hv
  have hci : cvOk (cIf x.a) = true := by
    have h4 := pow4 ha
    rcases h4 with e | e | e | e <;> (rw [e]; decide)
  have e1 : l = l.take k ++ x :: l.drop (k + 1) := by rw [← drop_get hx, List.take_append_drop]
  have e2 : l.set k (cIf x.a) = l.take k ++ cIf x.a :: l.drop (k + 1) := by
    conv => lhs; rw [e1]
    rw [List.set_append]
    simp [List.length_take, Nat.min_eq_left (Nat.le_of_lt hk)]
  rw [e1, pvRun_append] at hp
  rw [e2, pvRun_append]
  cases hs : pvRun [] (l.take k) with
  | none => rw [hs] at hp; cases hp
  | some s =>
    rw [hs] at hp
    simp only [pvRun] at hp ⊢
    have hst : pvStep s x = if s.length < 3 then some (13 :: s) else none := by simp [pvStep, hv, ho]
    have hst2 : pvStep s (cIf x.a) = if s.length < 3 then some (11 :: s) else none := by simp [pvStep, hci]; simp [cIf]
    by_cases hl : s.length < 3
    · rw [hst, if_pos hl] at hp
      rw [hst2, if_pos hl]
      obtain ⟨t', e, ht⟩ := pvRun_rel (l.drop (k + 1)) (s := 13 :: s) (s' := 11 :: s) ⟨.inr ⟨rfl, rfl⟩, PR.refl s⟩ hp
      simp only [e]
      cases t' with
      | nil => rfl
      | cons _ _ => exact ht.elim
    · rw [hst, if_neg hl] at hp
      cases hp
theorem peel_one {l : List Cd} (h : pv l = true) {k : Nat} (hk : k < l.length) (ho : (cdAt l k).op = 13) (hb : (cdAt l k).b = 1) : peelB l (k : Int) = true := by
  have hx : l[k]? = some (cdAt l k) := by unfold cdAt; rw [List.getElem?_eq_getElem hk]
  have hob : opB (cdAt l k) = true := by simp [opB, ho]
  obtain ⟨-, h1, h2⟩ := pEnd_bound h hx hob
  have e : peelOut l k = l.set k (cIf (cdAt l k).a) := by
    unfold peelOut bodyL
    rw [hb, if_neg (by decide), List.append_nil]
    have e2 := set_split hx (cIf (cdAt l k).a)
    have e3 : l.drop (pEnd l k) = (l.drop (k + 1)).drop (pEnd l k - (k + 1)) := by rw [List.drop_drop]; congr 1; omega
    rw [e2, e3, List.append_assoc, List.append_assoc, List.take_append_drop]
    rfl
  have hin : inR (k : Int) 0 ((l.length : Int) - 1) = true := inR_iff.2 ⟨by omega, by omega⟩
  simp [peelB, peelOk, h, hin, ho, e, one_turn h hx ho]

theorem peelPl_pre (l : List Cd) (k : Nat) : ∀ d, ∃ r, peelPl l (k + d) = peelPl l k ++ r ∧ ∀ a ∈ r, (k : Int) ≤ a ∧ peelB l a = true
  | 0 => ⟨[], by simp⟩
  | d + 1 => by
    obtain ⟨r, hr, hm⟩ := peelPl_pre l k d
    cases h : peelB l ((k + d : Nat) : Int) with
    | true =>
      refine ⟨r ++ [((k + d : Nat) : Int)], by rw [show k + (d + 1) = (k + d) + 1 by omega, peelPl_yes h, hr, List.append_assoc], fun a ha => ?_⟩
      rcases List.mem_append.1 ha with ha | ha
      · exact hm a ha
      · simp only [List.mem_singleton] at ha
        subst ha
        exact ⟨by omega, h⟩
    | false => exact ⟨r, by rw [show k + (d + 1) = (k + d) + 1 by omega, peelPl_no h, hr], hm⟩
theorem peelPl_get {l : List Cd} {k : Nat} (hk : k < l.length) (h : peelB l (k : Int) = true) : (peelPl l l.length)[(peelPl l k).length]? = some (k : Int) := by
  obtain ⟨r, hr, -⟩ := peelPl_pre l (k + 1) (l.length - (k + 1))
  rw [show k + 1 + (l.length - (k + 1)) = l.length by omega, peelPl_yes h] at hr
  rw [hr, List.append_assoc, List.getElem?_append_right (Nat.le_refl _)]
  simp
theorem peelPl_far {l : List Cd} {k : Nat} (hk : k < l.length) (h : peelB l (k : Int) = false) {q : Int} (hq : (peelPl l l.length)[(peelPl l k).length]? = some q) : q ≠ k := by
  obtain ⟨r, hr, hm⟩ := peelPl_pre l k (l.length - k)
  rw [show k + (l.length - k) = l.length by omega] at hr
  rw [hr, List.getElem?_append_right (Nat.le_refl _), Nat.sub_self] at hq
  have := (hm q (List.mem_of_getElem? hq)).2
  intro e
  rw [e, h] at this
  cases this
end Go.Proofs.Ytcpjhlkcfohkiaa
