/- A new row and a bool are returned; append of any slice that is read. -/
import Derived.Test.YtcpjhlkcfohkiaaClone
import Derived.Test.YtcpjhlkcfohkiaaSyn
namespace Go.Proofs.Ytcpjhlkcfohkiaa
open Go.RowKit
set_option linter.unusedVariables false
set_option linter.unusedSimpArgs false

/-- A new row of instructions and a bool are returned. -/
def RetCb (w : World) (l : List Cd) (b : Bool) (e : Ending) (w' : World) : Prop :=
  ∃ A c, e = .returned (.tuple #[.slice A l.length c, .bool b]) ∧ OC w' w.heap.size A l.length c l ∧ Below w.heap.size w w'
theorem RetCb.of {w w' : World} {l : List Cd} {b : Bool} {A : Option Addr} {n c : Nat} (h : OC w' w.heap.size A n c l) (hb : Below w.heap.size w w') : RetCb w l b (.returned (.tuple #[.slice A n c, .bool b])) w' := by
  obtain rfl := OC.len h
  exact ⟨A, c, rfl, h, hb⟩
theorem OC.ow {w : World} {base n c : Nat} {A : Option Addr} {l : List Cd} (h : OC w base A n c l) : OwC w base A n c l := .inr h
theorem below_gr {B base e size n c : Nat} {A : Option Addr} {xs : List Value} {w0 w1 w2 : World} (hb : Below B w0 w1) (hB : B ≤ w1.heap.size) (ho : OR w1 base e size A n c xs) (hbase : B ≤ base)
    (hg : w1.grownBy w2 (Value.ownBlock (.slice A n c))) : Below B w0 w2 :=
  hb.grown hg hB (fun k h => Nat.le_trans hbase (ho.block k h).1)
theorem nilC {w : World} {B : Nat} {A : Option Addr} {l : List Cd} (h : RdC w B A l) (e : A = none) : l.length = 0 := by
  subst e
  rcases Nat.eq_zero_or_pos l.length with h0 | h0
  · exact h0
  · obtain ⟨b, off, e, _⟩ := h.2 h0
    cases e
/-- A part of a slice that is read. -/
theorem RdC.sub {w : World} {B b off : Nat} {l : List Cd} (h : RdC w B (some ⟨b, off, none⟩) l) (i n : Nat) (hn : i + n ≤ l.length) : RdC w B (some ⟨b, off + i * 4, none⟩) ((l.drop i).take n) := by
  refine ⟨by rw [cdsCells_length], fun hp => ?_⟩
  have hlen : ((l.drop i).take n).length = n := by simp; omega
  have hl0 : 0 < l.length := by omega
  obtain ⟨b', off', e, hb, hc⟩ := h.2 hl0
  injection e with e
  injection e with e1 e2
  subst e1 e2
  refine ⟨b, off + i * 4, rfl, hb, fun j u hu => ?_⟩
  have hj : j < n * 4 := by
    have := (List.getElem?_eq_some_iff.1 hu).1
    rw [cdsCells_length, hlen] at this
    exact this
  have hk : j / 4 < n := by omega
  have hx : l[i + j / 4]? = some (l[i + j / 4]'(by omega)) := List.getElem?_eq_getElem (by omega)
  have hx2 : ((l.drop i).take n)[j / 4]? = some (l[i + j / 4]'(by omega)) := by
    rw [List.getElem?_take, if_pos hk, List.getElem?_drop, hx]
  have q1 := cdsCells_get _ _ _ hx (j % 4) (Nat.mod_lt _ (by decide))
  have q2 := cdsCells_get _ _ _ hx2 (j % 4) (Nat.mod_lt _ (by decide))
  rw [show j / 4 * 4 + j % 4 = j by omega] at q2
  rw [q2, ← q1] at hu
  have := hc _ u hu
  rw [show off + i * 4 + j = off + ((i + j / 4) * 4 + j % 4) by omega]
  exact this
theorem cdAt_get' {l : List Cd} {k : Nat} (h : k < l.length) : l[k]? = some (cdAt l k) := by
  unfold cdAt
  rw [List.getElem?_eq_getElem h]

section
variable {w : World} {ops : Array Oper} {rest : List Oper} {o : Oper} {a : Act} {Q : Exit → Act → World → Prop}
set_option maxRecDepth 100000 in
/-- append of a slice of instructions that is read. -/
theorem app_cs (hgd : o.guard = none) (s x : Operand) (ho : o.op = .call { callee := .builtin .append, args := #[s, x], argTypes := #[24, 24] })
    (base : Nat) (A : Option Addr) (n c : Nat) (xs : List Cd) (hown : OC w base A n c xs) (hs : a.eval s = .slice A n c)
    (B : Nat) (A2 : Option Addr) (m cc : Nat) (news : List Cd) (hx : a.eval x = .slice A2 m cc) (hm : news.length = m) (hc : A2 = none → cc = 0) (hrd : RdC w B A2 news)
    (hn : n + m ≤ 1000000000000) (hbase : base ≤ w.heap.size)
    (hK : ∀ A' c' w', OC w' base A' (n + m) c' (xs ++ news) → w.grownBy w' (Value.ownBlock (.slice A n c)) → wpList Try.prog ops Q rest (a.put o.dst (.slice A' (n + m) c')) w') :
    wpList Try.prog ops Q (o :: rest) a w := by
  cases A2 with
  | none =>
    obtain rfl := hc rfl
    have h0 := nilC hrd rfl
    obtain rfl : m = 0 := by omega
    obtain rfl : news = [] := List.eq_nil_of_length_eq_zero h0
    obtain ⟨i0, hi, hz0, hz1, hz2⟩ := info_parts infoCode
    refine wpList_append_own_none hgd s x 24 ho base 45 i0 4 Try.underlying24 hi _ _ _ hs hown hx ?_
    exact hK A c w (by simpa using hown) (grown_refl _ _)
  | some ad =>
    subst hm
    refine app_rd 24 45 _ 4 32 Try.underlying24 infoCode rfl (by decide) (by decide) hgd s x ho base A n c _ hown hs B ad news.length cc _ hx hrd (cds_one news) hn hbase ?_
    intro A' c' w' h hg
    exact hK A' c' w' (by unfold OC; rw [cdsCells_append]; exact h) hg
end
end Go.Proofs.Ytcpjhlkcfohkiaa
