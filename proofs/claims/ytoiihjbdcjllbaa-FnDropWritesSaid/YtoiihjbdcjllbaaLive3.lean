/- The reference's GraphOf: the walk. -/
import Derived.Test.YtoiihjbdcjllbaaLive1
namespace Go.Proofs.Ytoiihjbdcjllbaa
open Go.RowKit
set_option linter.unusedVariables false
set_option linter.unusedSimpArgs false

def GORel (w : World) (l : List Cd) (ov kv : Value) (wr : World) : Prop :=
  ∃ (k : Nat) (A : Option Addr) (c : Nat), k ≤ l.length ∧ kv = .int .i64 k ∧ ov = .slice A k c ∧ GOw wr w.heap.size A k c (succI l) k ∧ Below w.heap.size w wr