/- What the program's table of blocks holds after k instructions: plain Lean, no program in sight. -/
import Derived.Test.YtfpecplpammhiaaLive
namespace Go.Proofs.Ytfpecplpammhiaa

def mark (l : List Cd) (oth : Nat → Int) (p : Nat) : Int := if (cdAt l p).op = 13 then 13 else if 0 ≤ oth p then 12 else 11

def updI (s : Nat → Int) (k : Nat) (v : Int) : Nat → Int := fun j => if j = k then v else s j

structure PInv (l : List Cd) (k : Nat) (st : List Nat) (oth en : Nat → Int) : Prop where
  hk : k ≤ l.length
  pvs : pvRun [] (l.take k) = some (st.map (mark l oth))
  st_lt : ∀ p, p ∈ st → p < k ∧ opB (cdAt l p) = true
  nodup : st.Nodup
  s3 : st.length ≤ 3
  clo : ∀ p, p < k → opB (cdAt l p) = true → p ∉ st → endOf l p = (en p, oth p)
  opn : ∀ i p, st[i]? = some p → en p = -1 ∧ endOf l p = scanE (l.drop k) k i (oth p)
  aro : ∀ i, scanA l k i = match st[i]? with
    | some p => (p : Int)
    | none => -1

theorem cdAt_get {l : List Cd} {k : Nat} {x : Cd} (h : l[k]? = some x) : cdAt l k = x := by simp [cdAt, h]
theorem opAt_get {l : List Cd} {k : Nat} {x : Cd} (h : l[k]? = some x) : opAt l k = x.op := by simp [opAt, h]
theorem drop_get {l : List Cd} {k : Nat} {x : Cd} (h : l[k]? = some x) : l.drop k = x :: l.drop (k + 1) := by
  obtain ⟨hk, rfl⟩ := List.getElem?_eq_some_iff.1 h
  exact List.drop_eq_getElem_cons hk

theorem take_pv {l : List Cd} {k : Nat} {x : Cd} {s t : List Int} (hx : l[k]? = some x) (h : pvRun [] (l.take k) = some s) (hs : pvStep s x = some t) : pvRun [] (l.take (k + 1)) = some t := by
  obtain ⟨hk, rfl⟩ := List.getElem?_eq_some_iff.1 hx
  rw [List.take_succ_eq_append_getElem hk, pvRun_append, h]
  simp [pvRun, hs]

theorem PInv.start (l : List Cd) : PInv l 0 [] (fun _ => -1) (fun _ => -1) :=
  ⟨Nat.zero_le _, rfl, by simp, by simp, by simp, fun p hp => by omega, by simp, fun i => by simp [scanA]⟩

section
variable {l : List Cd} {k : Nat} {st : List Nat} {oth en : Nat → Int} {x : Cd}

theorem map_mark_congr {oth' : Nat → Int} (h : ∀ p, p ∈ st → oth' p = oth p) : st.map (mark l oth') = st.map (mark l oth) := by
  apply List.map_congr_left
  intro p hp
  simp [mark, h p hp]

theorem PInv.lt_of (h : PInv l k st oth en) {i p : Nat} (hi : st[i]? = some p) : p < k ∧ opB (cdAt l p) = true :=
  h.st_lt p (List.mem_of_getElem? hi)

/-- A block is opened at place k. -/
theorem PInv.open_ (h : PInv l k st oth en) (hx : l[k]? = some x) (hv : cvOk x = true) (ho : opB x = true) (h3 : st.length < 3) :
    PInv l (k + 1) (k :: st) (updI oth k (-1)) (updI en k (-1)) := by
  have hk : k < l.length := (List.getElem?_eq_some_iff.1 hx).1
  have hne : ∀ p, p ∈ st → p ≠ k := fun p hp => by have := (h.st_lt p hp).1; omega
  have ho' : x.op = 11 ∨ x.op = 13 := by simpa [opB] using ho
  refine ⟨hk, ?_, ?_, ?_, by simp; omega, ?_, ?_, ?_⟩
  · refine take_pv hx h.pvs ?_
    have e : (k :: st).map (mark l (updI oth k (-1))) = x.op :: st.map (mark l oth) := by
      rw [List.map_cons, map_mark_congr (oth := oth) (fun p hp => by simp [updI, hne p hp])]
      congr 1
      rcases ho' with ho' | ho' <;> simp [mark, cdAt_get hx, ho', updI]
    rw [e]
    rcases ho' with ho' | ho' <;> simp [pvStep, hv, ho', h3]
  · intro p hp
    rcases List.mem_cons.1 hp with rfl | hp
    · exact ⟨by omega, by rw [cdAt_get hx]; exact ho⟩
    · have := h.st_lt p hp
      exact ⟨by omega, this.2⟩
  · exact List.nodup_cons.2 ⟨fun hm => hne k hm rfl, h.nodup⟩
  · intro p hp hop hn
    simp only [List.mem_cons, not_or] at hn
    have := h.clo p (by omega) hop hn.2
    simp [updI, hn.1, this]
  · intro i p hi
    cases i with
    | zero =>
      simp at hi
      subst hi
      simp [updI, endOf]
    | succ i =>
      simp at hi
      have h1 := h.opn i p hi
      have hpk := hne p (List.mem_of_getElem? hi)
      simp only [updI, hpk, if_false]
      refine ⟨h1.1, ?_⟩
      rw [h1.2, drop_get hx, scanE_cons_open ho]
  · intro i
    rw [scanA_step _ _ _ _ hx, ho]
    cases i with
    | zero => simp
    | succ i => simp [h.aro i]

theorem scanE_else' (hx : x.op = 12) (r : List Cd) (k d : Nat) (o : Int) : scanE (x :: r) k d o = scanE r (k + 1) d (if d = 0 then (k : Int) else o) := by
  cases d <;> simp [scanE, hx, opB]
theorem scanE_end' (hx : x.op = 14) (r : List Cd) (k d : Nat) (o : Int) : scanE (x :: r) k (d + 1) o = scanE r (k + 1) d o := by
  simp [scanE, hx, opB]
theorem scanE_end0' (hx : x.op = 14) (r : List Cd) (k : Nat) (o : Int) : scanE (x :: r) k 0 o = ((k : Int), o) := by
  simp [scanE, hx, opB]
theorem scanE_same' (h1 : opB x = false) (h2 : x.op ≠ 12) (h3 : x.op ≠ 14) (r : List Cd) (k d : Nat) (o : Int) : scanE (x :: r) k d o = scanE r (k + 1) d o := by
  simp [scanE, h1, h2, h3]

/-- The innermost block is divided at place k. -/
theorem PInv.els_ {p : Nat} (h : PInv l k (p :: st) oth en) (hx : l[k]? = some x) (hv : cvOk x = true) (ho : x.op = 12) (h1 : (cdAt l p).op = 11) (h2 : oth p < 0) :
    PInv l (k + 1) (p :: st) (updI oth p k) en := by
  have hk : k < l.length := (List.getElem?_eq_some_iff.1 hx).1
  have hn := h.nodup
  rw [List.nodup_cons] at hn
  have hne : ∀ q, q ∈ st → q ≠ p := fun q hq e => hn.1 (e ▸ hq)
  have hox : opB x = false := by simp [opB, ho]
  refine ⟨hk, ?_, ?_, h.nodup, h.s3, ?_, ?_, ?_⟩
  · refine take_pv hx h.pvs ?_
    have e0 : st.map (mark l (updI oth p k)) = st.map (mark l oth) := map_mark_congr (fun q hq => by simp [updI, hne q hq])
    have e1 : mark l oth p = 11 := by simp [mark, h1]; omega
    have e2 : mark l (updI oth p k) p = 12 := by simp [mark, h1, updI]
    rw [List.map_cons, List.map_cons, e0, e1, e2]
    simp [pvStep, hv, ho]
  · intro q hq
    have := h.st_lt q hq
    exact ⟨by omega, this.2⟩
  · intro q hq hop hqn
    by_cases hqk : q = k
    · subst hqk
      rw [cdAt_get hx, hox] at hop
      cases hop
    · have hqp : q ≠ p := fun e => hqn (by simp [e])
      have := h.clo q (by omega) hop hqn
      simp [updI, hqp, this]
  · intro i q hi
    cases i with
    | zero =>
      simp at hi
      subst hi
      have h0 := h.opn 0 p rfl
      refine ⟨h0.1, ?_⟩
      rw [h0.2, drop_get hx, scanE_else' ho]
      simp [updI]
    | succ i =>
      simp at hi
      have h0 := h.opn (i + 1) q (by simpa using hi)
      refine ⟨h0.1, ?_⟩
      rw [h0.2, drop_get hx, scanE_else' ho]
      simp [updI, hne q (List.mem_of_getElem? hi)]
  · intro i
    rw [scanA_step _ _ _ _ hx, hox]
    have e : (x.op == 14) = false := by simp [ho]
    simp only [e, Bool.false_eq_true, if_false]
    exact h.aro i

/-- The innermost block is closed at place k. -/
theorem PInv.end_ {p : Nat} (h : PInv l k (p :: st) oth en) (hx : l[k]? = some x) (hv : cvOk x = true) (ho : x.op = 14) :
    PInv l (k + 1) st oth (updI en p k) := by
  have hk : k < l.length := (List.getElem?_eq_some_iff.1 hx).1
  have hn := h.nodup
  rw [List.nodup_cons] at hn
  have hne : ∀ q, q ∈ st → q ≠ p := fun q hq e => hn.1 (e ▸ hq)
  have hox : opB x = false := by simp [opB, ho]
  refine ⟨hk, ?_, ?_, hn.2, by have := h.s3; simp at this; omega, ?_, ?_, ?_⟩
  · refine take_pv hx h.pvs ?_
    rw [List.map_cons]
    simp [pvStep, hv, ho]
  · intro q hq
    have := h.st_lt q (by simp [hq])
    exact ⟨by omega, this.2⟩
  · intro q hq hop hqn
    by_cases hqk : q = k
    · subst hqk
      rw [cdAt_get hx, hox] at hop
      cases hop
    · by_cases hqp : q = p
      · subst hqp
        have h0 := h.opn 0 q rfl
        rw [h0.2, drop_get hx, scanE_end0' ho]
        simp [updI]
      · have := h.clo q (by omega) hop (by simp [hqp, hqn])
        simp [updI, hqp, this]
  · intro i q hi
    have h0 := h.opn (i + 1) q (by simpa using hi)
    have hqp := hne q (List.mem_of_getElem? hi)
    simp only [updI, hqp, if_false]
    refine ⟨h0.1, ?_⟩
    rw [h0.2, drop_get hx, scanE_end' ho]
  · intro i
    rw [scanA_step _ _ _ _ hx, hox]
    have e : (x.op == 14) = true := by simp [ho]
    simp only [e, Bool.false_eq_true, if_false, if_true]
    have := h.aro (i + 1)
    simpa using this

/-- Any other instruction. -/
theorem PInv.same_ (h : PInv l k st oth en) (hx : l[k]? = some x) (hv : cvOk x = true) (h1 : opB x = false) (h2 : x.op ≠ 12) (h3 : x.op ≠ 14) :
    PInv l (k + 1) st oth en := by
  have hk : k < l.length := (List.getElem?_eq_some_iff.1 hx).1
  refine ⟨hk, ?_, ?_, h.nodup, h.s3, ?_, ?_, ?_⟩
  · refine take_pv hx h.pvs ?_
    simp [opB] at h1
    simp [pvStep, hv, h1, h2, h3]
  · intro q hq
    have := h.st_lt q hq
    exact ⟨by omega, this.2⟩
  · intro q hq hop hqn
    by_cases hqk : q = k
    · subst hqk
      rw [cdAt_get hx, h1] at hop
      cases hop
    · exact h.clo q (by omega) hop hqn
  · intro i q hi
    have h0 := h.opn i q hi
    refine ⟨h0.1, ?_⟩
    rw [h0.2, drop_get hx, scanE_same' h1 h2 h3]
  · intro i
    rw [scanA_step _ _ _ _ hx, h1]
    have e : (x.op == 14) = false := by simp [h3]
    simp only [e, Bool.false_eq_true, if_false]
    exact h.aro i

theorem pv_none (hx : l[k]? = some x) (h : pvRun [] (l.take k) = some (st.map (mark l oth))) (hs : pvStep (st.map (mark l oth)) x = none) : pvRun [] l = none := by
  obtain ⟨hk, rfl⟩ := List.getElem?_eq_some_iff.1 hx
  conv => lhs; rw [← List.take_append_drop k l]
  rw [pvRun_append, h, List.drop_eq_getElem_cons hk]
  simp [pvRun, hs]
end
end Go.Proofs.Ytfpecplpammhiaa
