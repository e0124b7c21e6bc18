/- FnPeelPlaces: the walk of the law. -/
import Derived.Test.YtcaibhjdahmjeaaSame
import Derived.Test.YtcaibhjdahmjeaaPeelJ
import Derived.Test.YtcaibhjdahmjeaaSem
namespace Go.Proofs.Ytcaibhjdahmjeaa
open Go.RowKit
set_option linter.unusedVariables false
set_option linter.unusedSimpArgs false

theorem OC.cap {w : World} {base n c : Nat} {A : Option Addr} {l : List Cd} (h : OC w base A n c l) : n ≤ c := by
  rcases h.2 with ⟨hv, h0⟩ | ⟨g, cap, cur, hv, -, -, h4, -⟩
  · omega
  · injection hv with _ _ h3
    omega

def FPlRel (w : World) (l : List Cd) (av kv : Value) (wr : World) : Prop := ∃ k : Nat, k ≤ l.length ∧ kv = .int .i64 k ∧ av = .int .i64 (peelPl l k).length ∧ Below w.heap.size w wr