/- One instruction of a lane. -/
import Derived.Test.YtcpjhlkcfohkiaaLock0
import Derived.Test.YtcpjhlkcfohkiaaEnds
import Derived.Test.YtcpjhlkcfohkiaaRet
import Derived.Test.YtcpjhlkcfohkiaaBits
import Derived.Test.YtcpjhlkcfohkiaaValid1
import Derived.Deep.RegionHeld3
import Derived.StillTailTactics
import Derived.IntWalk
namespace Go.Proofs.Ytcpjhlkcfohkiaa
open Go.RowKit
set_option linter.unusedVariables false
set_option linter.unusedSimpArgs false

/-- w' is w but for the blocks b and c, and new blocks. -/
structure Off (w w' : World) (b c : Nat) : Prop where
  os : w'.os = w.os
  tape : w'.tape = w.tape
  output : w'.output = w.output
  size : w.heap.size ≤ w'.heap.size
  block : ∀ k, k < w.heap.size → k ≠ b → k ≠ c → w'.heap[k]? = w.heap[k]?
theorem Off.refl (w : World) (b c : Nat) : Off w w b c := ⟨rfl, rfl, rfl, Nat.le_refl _, fun _ _ _ _ => rfl⟩
theorem Off.alloc {w w' : World} {b c : Nat} (h : Off w w' b c) (o : Obj) : Off w (w'.alloc o) b c :=
  ⟨h.os, h.tape, h.output, Nat.le_trans h.size (by simp), fun k hk h1 h2 => (Below.heap_alloc _ _ _ (Nat.lt_of_lt_of_le hk h.size)).trans (h.block k hk h1 h2)⟩
theorem Off.drew {w w' : World} {b c : Nat} (h : Off w w' b c) : Off w w'.drew b c := ⟨h.os, h.tape, h.output, h.size, h.block⟩
theorem Off.set1 {w w' : World} {b c : Nat} (h : Off w w' b c) (i : Nat) (u : Value) : Off w (w'.setCell ⟨b, i, none⟩ u) b c :=
  ⟨h.os, h.tape, h.output, by rw [size_set]; exact h.size, fun k hk h1 h2 => (heap_set_other h1 i u).trans (h.block k hk h1 h2)⟩
theorem Off.set2 {w w' : World} {b c : Nat} (h : Off w w' b c) (i : Nat) (u : Value) : Off w (w'.setCell ⟨c, i, none⟩ u) b c :=
  ⟨h.os, h.tape, h.output, by rw [size_set]; exact h.size, fun k hk h1 h2 => (heap_set_other h2 i u).trans (h.block k hk h1 h2)⟩

theorem iWordAdd_c (a b : Int) (w : World) (ha : 0 ≤ a ∧ a ≤ 255) (hb : 0 ≤ b ∧ b ≤ 255) :
    Calls Try.prog 140 #[.int .i64 a, .int .i64 b] w fun e w' => e = .returned (.int .i64 ((a + b) % 256)) ∧ w = w' := by
  have h1 : inR a 0 255 = true := inR_iff.2 ha
  have h2 : inR b 0 255 = true := inR_iff.2 hb
  obtain ⟨a1, a2⟩ := ha
  obtain ⟨b1, b2⟩ := hb
  go_enter Try.func140, Try.ntmps140
  go_wp2_with (go_at_call 117; refine (isWord_c _ _).mono ?_; rintro e w' ⟨rfl, rfl⟩)
  go_ret
  exact ⟨rfl, rfl⟩

theorem iWordMul_c (a b : Int) (w : World) (ha : 0 ≤ a ∧ a ≤ 255) (hb : 0 ≤ b ∧ b ≤ 255) :
    Calls Try.prog 141 #[.int .i64 a, .int .i64 b] w fun e w' => e = .returned (.int .i64 (a * b % 256)) ∧ w = w' := by
  have h1 : inR a 0 255 = true := inR_iff.2 ha
  have h2 : inR b 0 255 = true := inR_iff.2 hb
  have p1 : 0 ≤ a * b := Int.mul_nonneg ha.1 hb.1
  have p2 : a * b ≤ 65025 := by
    have := Int.mul_le_mul ha.2 hb.2 hb.1 (by omega)
    omega
  obtain ⟨a1, a2⟩ := ha
  obtain ⟨b1, b2⟩ := hb
  go_enter Try.func141, Try.ntmps141
  go_wp2_with (go_at_call 117; refine (isWord_c _ _).mono ?_; rintro e w' ⟨rfl, rfl⟩)
  go_ret
  exact ⟨rfl, rfl⟩

theorem iWordLess_c (a b : Int) (w : World) (ha : 0 ≤ a ∧ a ≤ 255) (hb : 0 ≤ b ∧ b ≤ 255) :
    Calls Try.prog 142 #[.int .i64 a, .int .i64 b] w fun e w' => e = .returned (.int .i64 (lessI a b)) ∧ w = w' := by
  have h1 : inR a 0 255 = true := inR_iff.2 ha
  have h2 : inR b 0 255 = true := inR_iff.2 hb
  by_cases h : a < b
  all_goals
    go_enter Try.func142, Try.ntmps142
    go_wp2_with (go_at_call 117; refine (isWord_c _ _).mono ?_; rintro e w' ⟨rfl, rfl⟩)
    go_ret
    exact ⟨reti (by simp [lessI, h]), rfl⟩

theorem rg_get {r : List Int} (hr : r.length = 4) {a : Nat} (ha : a ≤ 3) : r[a]? = some (rg r (a : Int)) := by
  have : a < r.length := by omega
  simp [rg, List.getD_eq_getElem?_getD, List.getElem?_eq_getElem this]

theorem calls_flip {f : FuncId} {args : Array Value} {w : World} {v : Value} (h : Calls Try.prog f args w fun e w' => e = .returned v ∧ w = w') : Calls Try.prog f args w fun e w' => e = .returned v ∧ w' = w :=
  h.mono fun _ _ ⟨h1, h2⟩ => ⟨h1, h2.symm⟩

/-- What one instruction leaves. -/
def Simp1 (w : World) (base rb rc mb mn mc : Nat) (x : Cd) (id : Nat) (r m : List Int) (w' : World) : Prop :=
  OI w' base (some ⟨rb, 0, none⟩) 4 rc (simp1 x id r m).1 ∧ OI w' base (some ⟨mb, 0, none⟩) mn mc (simp1 x id r m).2 ∧ Off w w' rb mb

end Go.Proofs.Ytcpjhlkcfohkiaa
