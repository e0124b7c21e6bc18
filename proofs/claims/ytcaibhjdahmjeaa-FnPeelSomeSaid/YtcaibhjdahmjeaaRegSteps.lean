/- Appends to own rows as steps of a region that draws. -/
import Derived.Test.YtcaibhjdahmjeaaMem2
import Derived.Deep.RegionLaw
import Derived.Deep.AppendLies
namespace Go.Proofs.Ytcaibhjdahmjeaa
open Go.RowKit
set_option linter.unusedVariables false
set_option linter.unusedSimpArgs false

/-- What a list of one operation shows, as one step of a region that draws. -/
theorem step_list {P : Program} {ops : Array Oper} {o : Oper} {a : Act} {w : World} {K : Act → World → Prop} {Q : Exit → Act → World → Prop} {E : Prop} (Φ : Act → World → Prop) (hg : o.guard = none)
    (h : wpList P ops (fun e a w => e = .normal ∧ Φ a w) [o] a w) (hK : ∀ a w, Φ a w → K a w) :
    if Region.wanted o (yielded ops a.tmps) = true then Oper.wp P o a w K Q else E := by
  have hw : Region.wanted o (yielded ops a.tmps) = true := by simp [Region.wanted, hg]
  rw [if_pos hw]
  simp only [wpList, hw, if_true] at h
  rcases h with h | ⟨_, a1, w1, he, _⟩
  · unfold Oper.wp at *
    generalize (execOp a.eval o).run P w = r at *
    cases r with
    | ok n w' =>
      cases n <;> simp only [Oper.upon] at h ⊢ <;>
        first
          | exact hK _ _ h.2
          | exact Calls.mono h (fun e w'' he => by cases e with
              | returned v => exact hK _ _ he.2
              | panicked c => exact absurd he.1 (by simp)
              | outgrown => obtain ⟨a1, w1, he, _⟩ := he; cases he)
          | exact Rows.mono h (fun _ _ he => hK _ _ he.2)
    | halt x w' =>
      cases x <;> simp only [Oper.upon] at h ⊢ <;>
        first
          | exact absurd h.1 (by simp)
          | exact h.elim
          | exact h
  · cases he

theorem step_cs {ops : Array Oper} {o : Oper} {a : Act} {w : World} {K : Act → World → Prop} {Q : Exit → Act → World → Prop} {E : Prop} (hgd : o.guard = none) (s x : Operand) (ho : o.op = .call { callee := .builtin .append, args := #[s, x], argTypes := #[23, 23] })
    (base : Nat) (A : Option Addr) (n c : Nat) (xs : List Cd) (hs : a.eval s = .slice A n c) (hown : OC w base A n c xs)
    (B : Nat) (A2 : Option Addr) (m cc : Nat) (news : List Cd) (hx : a.eval x = .slice A2 m cc) (hm : news.length = m) (hc : A2 = none → cc = 0) (hrd : RdC w B A2 news)
    (hn : n + m ≤ 1000000000000) (hbase : base ≤ w.heap.size)
    (hK : ∀ A' c' w', OC w' base A' (n + m) c' (xs ++ news) → w.grownBy w' (Value.ownBlock (.slice A n c)) → K (a.put o.dst (.slice A' (n + m) c')) w') :
    if Region.wanted o (yielded ops a.tmps) = true then Oper.wp Try.prog o a w K Q else E :=
  step_list (fun a2 w2 => ∃ A' c' w', OC w' base A' (n + m) c' (xs ++ news) ∧ w.grownBy w' (Value.ownBlock (.slice A n c)) ∧ a2 = a.put o.dst (.slice A' (n + m) c') ∧ w2 = w') hgd
    (app_cs hgd s x ho base A n c xs hown hs B A2 m cc news hx hm hc hrd hn hbase (fun A' c' w' h1 h2 => ⟨rfl, A', c', w', h1, h2, rfl, rfl⟩))
    (fun a2 w2 ⟨A', c', w', h1, h2, e1, e2⟩ => by rw [e1, e2]; exact hK A' c' w' h1 h2)

theorem step_code {ops : Array Oper} {o : Oper} {a : Act} {w : World} {K : Act → World → Prop} {Q : Exit → Act → World → Prop} {E : Prop} (hgd : o.guard = none) (s x : Operand) (ho : o.op = .call { callee := .builtin .append, args := #[s, x], argTypes := #[23, 23] })
    (base : Nat) (A : Option Addr) (n c : Nat) (l : List Cd) (hs : a.eval s = .slice A n c) (hown : OC w base A n c l)
    (y : Cd) (g cc : Nat) (hx : a.eval x = .slice (some ⟨g, 0, none⟩) 1 cc)
    (h0 : w.cell? ⟨g, 0, none⟩ = some (.int .i64 y.op)) (h1 : w.cell? ⟨g, 1, none⟩ = some (.int .i64 y.a)) (h2 : w.cell? ⟨g, 2, none⟩ = some (.int .i64 y.b)) (h3 : w.cell? ⟨g, 3, none⟩ = some (.int .i64 y.c))
    (hn : n < 1000000000000) (hbase : base ≤ w.heap.size)
    (hK : ∀ A' c' w', OC w' base A' (n + 1) c' (l ++ [y]) → w.grownBy w' (Value.ownBlock (.slice A n c)) → K (a.put o.dst (.slice A' (n + 1) c')) w') :
    if Region.wanted o (yielded ops a.tmps) = true then Oper.wp Try.prog o a w K Q else E :=
  step_list (fun a2 w2 => ∃ A' c' w', OC w' base A' (n + 1) c' (l ++ [y]) ∧ w.grownBy w' (Value.ownBlock (.slice A n c)) ∧ a2 = a.put o.dst (.slice A' (n + 1) c') ∧ w2 = w') hgd
    (app_code hgd s x ho base A n c l hown hs y g cc hx h0 h1 h2 h3 hn hbase (fun A' c' w' h1 h2 => ⟨rfl, A', c', w', h1, h2, rfl, rfl⟩))
    (fun a2 w2 ⟨A', c', w', h1, h2, e1, e2⟩ => by rw [e1, e2]; exact hK A' c' w' h1 h2)
end Go.Proofs.Ytcaibhjdahmjeaa
