/- The reference's LiveSets. -/
import Derived.Test.YtoiihjbdcjllbaaLive3
namespace Go.Proofs.Ytoiihjbdcjllbaa
open Go.RowKit
set_option linter.unusedVariables false
set_option linter.unusedSimpArgs false

/-- The sum of n numbers in a block. -/
def cellSum (w : World) (g : Nat) : Nat → Nat
  | 0 => 0
  | n + 1 => cellSum w g n + (match w.cell? ⟨g, n, none⟩ with | some (.int _ v) => v.toNat | _ => 0)
theorem cellSum_eq {w : World} {base g N c : Nat} {s : Nat → Nat} (h : OI w base (some ⟨g, 0, none⟩) N c (lvRow s N)) : ∀ n, n ≤ N → cellSum w g n = sumN s n
  | 0, _ => rfl
  | n + 1, hn => by
    have h1 := (OI.at0 h).1 n _ (lvRow_get s (show n < N by omega))
    simp only [cellSum, sumN, h1, cellSum_eq h n (by omega)]
    simp
theorem sumN_same : ∀ {s t : Nat → Nat} (n : Nat), (∀ k, k < n → s k = t k) → sumN s n = sumN t n
  | _, _, 0, _ => rfl
  | s, t, n + 1, h => by simp only [sumN, sumN_same n (fun k hk => h k (by omega)), h n (by omega)]

def flagN (v : Value) : Nat := match v with | .bool true => 1 | _ => 0

def LSRel (l : List Cd) (w2 : World) (lb : Nat) (cv : Value) (wr : World) : Prop :=
  ∃ (s : Nat → Nat) (ch : Bool), cv = .bool ch ∧ Hid (LInv l s) ∧ OI wr w2.heap.size (some ⟨lb, 0, none⟩) (l.length + 1) (l.length + 1) (lvRow s (l.length + 1)) ∧ Below w2.heap.size w2 wr ∧ Hid (ch = false → s = liveFix l)

def LMRel (l : List Cd) (w2 : World) (lb : Nat) (s0 : Nat → Nat) (cv kv : Value) (wr : World) : Prop :=
  ∃ (s : Nat → Nat) (ch : Bool) (k : Nat), cv = .bool ch ∧ k ≤ l.length ∧ kv = .int .i64 ((k : Int) - 1) ∧ Hid (Mid l s0 s k ch) ∧ OI wr w2.heap.size (some ⟨lb, 0, none⟩) (l.length + 1) (l.length + 1) (lvRow s (l.length + 1)) ∧ Below w2.heap.size w2 wr

theorem loopSet_yes {l : List Cd} {k : Nat} (h1 : opAt l k = 14) (h2 : opAt l (aroundN l k) = 13) : loopSet l k = 2 ^ (cdAt l (aroundN l k)).a.toNat := by simp [loopSet, h1, h2]
theorem loopSet_no {l : List Cd} {k : Nat} (h : opAt l k ≠ 14 ∨ opAt l (aroundN l k) ≠ 13) : loopSet l k = 0 := by
  unfold loopSet
  rw [if_neg]
  simp
  intro h1
  exact h.resolve_left (fun e => e h1)