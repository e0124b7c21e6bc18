/- The reference's GraphOf. -/
import Derived.Test.YtcpjhlkcfohkiaaLive1
import Derived.IntWalk
namespace Go.Proofs.Ytcpjhlkcfohkiaa
open Go.RowKit
set_option linter.unusedVariables false
set_option linter.unusedSimpArgs false

theorem succI_succ {l : List Cd} {k : Nat} (hk : k < l.length) : succI l k =
    if opAt l k == 11 || opAt l k == 13 then (if overN l k = k + 1 then [((k : Int) + 1)] else [((k : Int) + 1), (overN l k : Int)])
    else if opAt l k == 12 then [((endN l (aroundN l k) : Int) + 1)]
    else if opAt l k == 14 then (if opAt l (aroundN l k) == 13 then [((aroundN l k : Int) + 1), ((k : Int) + 1)] else [((k : Int) + 1)])
    else [((k : Int) + 1)] := by
  rw [succI_lt hk]
  unfold succs
  repeat' split
  all_goals simp

theorem int_lit (w : World) (B : Nat) (hB : B ≤ w.heap.size) (x : Int) : OI (w.alloc (.cells #[.int .i64 x] 3)) B (some ⟨w.heap.size, 0, none⟩) 1 1 [x] := OR.lit w B 3 1 1 #[.int .i64 x] hB (by omega) rfl
theorem int_lit2 (w : World) (B : Nat) (hB : B ≤ w.heap.size) (x y : Int) : OI (w.alloc (.cells #[.int .i64 x, .int .i64 y] 3)) B (some ⟨w.heap.size, 0, none⟩) 2 2 [x, y] := OR.lit w B 3 1 2 #[.int .i64 x, .int .i64 y] hB (by omega) rfl

/-- One row more. -/
theorem GOw.snoc {w w2 : World} {base n c : Nat} {A A' A2 : Option Addr} {c' c2 : Nat} {f : Nat → List Int} {vs : List Value} (h1 : OR w base 47 1 A n c vs) (h2 : ∀ k, k < n → ∃ A' c', vs[k]? = some (.slice A' (f k).length c') ∧ OI w base A' (f k).length c' (f k)) (hi : OI w base A' (f n).length c' (f n)) (hB : base ≤ w.heap.size)
    (hg : (w.alloc (.cells #[.slice A' (f n).length c'] 47)).grownBy w2 (Value.ownBlock (.slice A n c)))
    (ho : OR w2 base 47 1 A2 (n + 1) c2 (vs ++ [.slice A' (f n).length c'])) : GOw w2 base A2 (n + 1) c2 f (n + 1) := by
  have hl : vs.length = n := by have := h1.len; omega
  have kp : ∀ {A'' : Option Addr} {n'' c'' : Nat} {xs : List Int}, OI w base A'' n'' c'' xs → OI w2 base A'' n'' c'' xs := fun {A'' n'' c'' xs} hx => by
    have hx1 : OI (w.alloc (.cells #[.slice A' (f n).length c'] 47)) base A'' n'' c'' xs := OR.alloc hx _
    rcases hx1.2 with ⟨hv, hn⟩ | ⟨g, cap, cur, hv, _, hgb, _⟩
    · exact ⟨hx.1, .inl ⟨hv, hn⟩⟩
    · refine OR.kept hx1 hg (.inr fun e => ?_)
      rw [hv] at e
      have e' : Value.ownBlock (.slice A n c) = some g := e.symm
      exact own_ne (h1.alloc (.cells #[.slice A' (f n).length c'] 47)) hgb (by decide) e'
  refine ⟨_, ho, fun k hk => ?_⟩
  by_cases e : k = n
  · subst e
    exact ⟨A', c', by rw [List.getElem?_append_right (by omega), hl, Nat.sub_self]; rfl, kp hi⟩
  · obtain ⟨B', d', e1, e2⟩ := h2 k (by omega)
    exact ⟨B', d', by rw [List.getElem?_append_left (by omega)]; exact e1, kp e2⟩

section
variable {w : World} {ops : Array Oper} {rest : List Oper} {o : Oper} {a : Act} {Q : Exit → Act → World → Prop}
/-- append of one row of numbers. -/
theorem app_g (hgd : o.guard = none) (s x : Operand) (ho : o.op = .call { callee := .builtin .append, args := #[s, x], argTypes := #[57, 57] })
    (base : Nat) (A : Option Addr) (n c : Nat) (f : Nat → List Int) (hs : a.eval s = .slice A n c)
    (A' : Option Addr) (nn c' : Nat) (wb : World) (hwb : w = wb.alloc (.cells #[.slice A' nn c'] 47)) (gb : Nat) (hgb : gb = wb.heap.size) (hx : a.eval x = .slice (some ⟨gb, 0, none⟩) 1 1)
    (hw : GOw wb base A n c f n) (hnn : nn = (f n).length) (hi : OI wb base A' (f n).length c' (f n)) (hn : n + 1 ≤ 1000000000000) (hbase : base ≤ wb.heap.size)
    (hK : ∀ A2 c2 w2, GOw w2 base A2 (n + 1) c2 f (n + 1) → w.grownBy w2 (Value.ownBlock (.slice A n c)) → wpList Try.prog ops Q rest (a.put o.dst (.slice A2 (n + 1) c2)) w2) :
    wpList Try.prog ops Q (o :: rest) a w := by
  subst hwb hnn hgb
  obtain ⟨vs, h1, h2⟩ := hw
  refine app_row 57 47 _ 1 24 Try.underlying57 infoRows rfl (by decide) (by decide) hgd s x ho base A n c vs (h1.alloc _) hs wb.heap.size 1 1 [.slice A' (f n).length c'] hx rfl (fun j u hu => ?_) (by intro u hu; simp at hu; subst hu; rfl) (by omega) (by simp; omega) (fun A2 c2 w2 hr hg => hK A2 c2 w2 (GOw.snoc h1 h2 hi hbase hg hr) hg)
  match j, hu with
  | 0, hu => simp at hu; subst hu; simp [go_sem]
end

/-- A graph is returned. -/
def RetG (w : World) (l : List Cd) (e : Ending) (w' : World) : Prop :=
  ∃ A c, e = .returned (.slice A (l.length + 1) c) ∧ GOw w' w.heap.size A (l.length + 1) c (succI l) (l.length + 1) ∧ Below w.heap.size w w'
end Go.Proofs.Ytcpjhlkcfohkiaa
