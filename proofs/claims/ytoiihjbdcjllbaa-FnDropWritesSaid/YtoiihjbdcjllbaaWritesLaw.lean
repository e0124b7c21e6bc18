/- The writes of two runs, one after the other: plain Lean, no program in sight. -/
import Derived.Test.YtoiihjbdcjllbaaDeadLaw
namespace Go.Proofs.Ytoiihjbdcjllbaa
set_option linter.unusedVariables false
set_option linter.unusedSimpArgs false

/-- What is left of two lists has the same writes. -/
def DW (all less : List Acc) (k at' : Nat) : Prop := (less.drop at').filter (fun q => q.wr) = (all.drop k).filter (fun q => q.wr)
theorem DW.skip {all less : List Acc} {k at' : Nat} (h : DW all less k at') {x : Acc} (hx : all[k]? = some x) (hw : x.wr = false) : DW all less (k + 1) at' := by
  obtain ⟨hk, rfl⟩ := List.getElem?_eq_some_iff.1 hx
  unfold DW at h ⊢
  rw [h, List.drop_eq_getElem_cons hk, List.filter_cons, hw]
  rfl
theorem DW.pass {all less : List Acc} {k at' : Nat} (h : DW all less k at') {x : Acc} (hx : less[at']? = some x) (hw : x.wr = false) : DW all less k (at' + 1) := by
  obtain ⟨hk, rfl⟩ := List.getElem?_eq_some_iff.1 hx
  unfold DW at h ⊢
  rw [← h, List.drop_eq_getElem_cons hk, List.filter_cons, hw]
  rfl
theorem DW.some_ {all less : List Acc} {k at' : Nat} (h : DW all less k at') {x : Acc} (hx : all[k]? = some x) (hw : x.wr = true) : at' < less.length := by
  obtain ⟨hk, rfl⟩ := List.getElem?_eq_some_iff.1 hx
  refine Nat.lt_of_not_le fun hle => ?_
  unfold DW at h
  rw [List.drop_eq_nil_of_le hle, List.drop_eq_getElem_cons hk, List.filter_cons, hw] at h
  simp at h
theorem DW.hit {all less : List Acc} {k at' : Nat} (h : DW all less k at') {x y : Acc} (hx : all[k]? = some x) (hw : x.wr = true) (hy : less[at']? = some y) (hwy : y.wr = true) : y = x ∧ DW all less (k + 1) (at' + 1) := by
  obtain ⟨hk, rfl⟩ := List.getElem?_eq_some_iff.1 hx
  obtain ⟨ha, rfl⟩ := List.getElem?_eq_some_iff.1 hy
  unfold DW at h ⊢
  rw [List.drop_eq_getElem_cons ha, List.drop_eq_getElem_cons hk, List.filter_cons, List.filter_cons, hw, hwy] at h
  simp only [if_true] at h
  injection h with h1 h2
  exact ⟨h1, h2⟩
theorem DW.start {l l' : List Cd} {n : Nat} {m : List Int} (h : Less n m l l') : DW (lockS l n m).accs (lockS l' n m).accs 0 0 := h.wr

end Go.Proofs.Ytoiihjbdcjllbaa
