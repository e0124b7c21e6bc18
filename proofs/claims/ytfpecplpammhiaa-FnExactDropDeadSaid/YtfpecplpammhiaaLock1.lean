/- One instruction of a lane. -/
import Derived.Test.YtfpecplpammhiaaLock0
import Derived.Test.YtfpecplpammhiaaEnds
import Derived.Test.YtfpecplpammhiaaRet
import Derived.Test.YtfpecplpammhiaaBits
import Derived.Test.YtfpecplpammhiaaValid1
import Derived.Deep.RegionHeld3
import Derived.StillTailTactics
import Derived.IntWalk
namespace Go.Proofs.Ytfpecplpammhiaa
open Go.RowKit

/-- w' is w but for the blocks b and c, and new blocks. -/
structure Off (w w' : World) (b c : Nat) : Prop where
  os : w'.os = w.os
  tape : w'.tape = w.tape
  output : w'.output = w.output
  size : w.heap.size ≤ w'.heap.size
  block : ∀ k, k < w.heap.size → k ≠ b → k ≠ c → w'.heap[k]? = w.heap[k]?
theorem Off.refl (w : World) (b c : Nat) : Off w w b c := ⟨rfl, rfl, rfl, Nat.le_refl _, fun _ _ _ _ => rfl⟩
theorem Off.alloc {w w' : World} {b c : Nat} (h : Off w w' b c) (o : Obj) : Off w (w'.alloc o) b c :=
  ⟨h.os, h.tape, h.output, Nat.le_trans h.size (by simp), fun k hk h1 h2 => (Below.heap_alloc _ _ _ (Nat.lt_of_lt_of_le hk h.size)).trans (h.block k hk h1 h2)⟩
theorem Off.drew {w w' : World} {b c : Nat} (h : Off w w' b c) : Off w w'.drew b c := ⟨h.os, h.tape, h.output, h.size, h.block⟩
theorem Off.set1 {w w' : World} {b c : Nat} (h : Off w w' b c) (i : Nat) (u : Value) : Off w (w'.setCell ⟨b, i, none⟩ u) b c :=
  ⟨h.os, h.tape, h.output, by rw [size_set]; exact h.size, fun k hk h1 h2 => (heap_set_other h1 i u).trans (h.block k hk h1 h2)⟩
theorem Off.set2 {w w' : World} {b c : Nat} (h : Off w w' b c) (i : Nat) (u : Value) : Off w (w'.setCell ⟨c, i, none⟩ u) b c :=
  ⟨h.os, h.tape, h.output, by rw [size_set]; exact h.size, fun k hk h1 h2 => (heap_set_other h2 i u).trans (h.block k hk h1 h2)⟩

theorem rg_get {r : List Int} (hr : r.length = 4) {a : Nat} (ha : a ≤ 3) : r[a]? = some (rg r (a : Int)) := by
  have : a < r.length := by omega
  simp [rg, List.getD_eq_getElem?_getD, List.getElem?_eq_getElem this]

theorem calls_flip {f : FuncId} {args : Array Value} {w : World} {v : Value} (h : Calls Try.prog f args w fun e w' => e = .returned v ∧ w = w') : Calls Try.prog f args w fun e w' => e = .returned v ∧ w' = w :=
  h.mono fun _ _ ⟨h1, h2⟩ => ⟨h1, h2.symm⟩

/-- What one instruction leaves. -/
def Simp1 (w : World) (base rb rc mb mn mc : Nat) (x : Cd) (id : Nat) (r m : List Int) (w' : World) : Prop :=
  OI w' base (some ⟨rb, 0, none⟩) 4 rc (simp1 x id r m).1 ∧ OI w' base (some ⟨mb, 0, none⟩) mn mc (simp1 x id r m).2 ∧ Off w w' rb mb

end Go.Proofs.Ytfpecplpammhiaa
