/- Profiles: plain. -/
import Derived.Test.YtfgbbajkdpideaaProfP
import Derived.Test.YtfgbbajkdpideaaMem
namespace Go.Proofs.Ytfgbbajkdpideaa
open Go.RowKit
set_option linter.unusedVariables false
set_option linter.unusedSimpArgs false

def profCells (l : List Cd) (bs : List (Nat × Nat)) : Array Value :=
  #[.int .i64 bs.length, .int .i64 (actOf bs), .int .i64 (opsOf l 8 bs), .int .i64 (opsOf l 9 bs), .int .i64 (opsOf l 10 bs)]
theorem prof_step {l : List Cd} {bs : List (Nat × Nat)} {k p m : Nat} (h : bs[k]? = some (p, m)) : profCells l (bs.take (k + 1)) =
    #[.int .i64 ((k : Int) + 1), .int .i64 ((actOf (bs.take k) : Int) + (lanesOf m).length), .int .i64 ((opsOf l 8 (bs.take k) : Int) + (if (cdAt l p).op == 8 then 1 else 0)),
      .int .i64 ((opsOf l 9 (bs.take k) : Int) + (if (cdAt l p).op == 9 then 1 else 0)), .int .i64 ((opsOf l 10 (bs.take k) : Int) + (if (cdAt l p).op == 10 then 1 else 0))] := by
  obtain ⟨hlt, he⟩ := List.getElem?_eq_some_iff.1 h
  have hl : (bs.take k).length = k := by simp; omega
  unfold profCells
  rw [List.take_succ_eq_append_getElem hlt, he, actOf_snoc, opsOf_snoc, opsOf_snoc, opsOf_snoc, List.length_append, hl]
  simp only
  cases (cdAt l p).op == 8 <;> cases (cdAt l p).op == 9 <;> cases (cdAt l p).op == 10 <;> simp
theorem prof_now {l : List Cd} {bs : List (Nat × Nat)} {k : Nat} (h : k ≤ bs.length) : profCells l (bs.take k) =
    #[.int .i64 (k : Int), .int .i64 (actOf (bs.take k)), .int .i64 (opsOf l 8 (bs.take k)), .int .i64 (opsOf l 9 (bs.take k)), .int .i64 (opsOf l 10 (bs.take k))] := by
  have hl : (bs.take k).length = k := by simp; omega
  unfold profCells
  rw [hl]
def zero5 : Array Value := #[.int .i64 0, .int .i64 0, .int .i64 0, .int .i64 0, .int .i64 0]
/-- The profile of a run, as a value. -/
noncomputable def profL (l : List Cd) (n : Int) (m : List Int) : Value := .agg (profCells l (traceOf l n m))

end Go.Proofs.Ytfgbbajkdpideaa
