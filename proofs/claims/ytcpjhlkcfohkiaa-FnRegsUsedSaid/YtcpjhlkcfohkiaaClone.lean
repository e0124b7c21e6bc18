/- Copies of slices. -/
import Derived.Test.YtcpjhlkcfohkiaaRet
import Derived.WalkSpells
namespace Go.Proofs.Ytcpjhlkcfohkiaa
open Go.RowKit
set_option linter.unusedVariables false
set_option linter.unusedSimpArgs false

section
variable {w : World} {ops : Array Oper} {rest : List Oper} {o : Oper} {a : Act} {Q : Exit → Act → World → Prop}
set_option maxRecDepth 100000 in
/-- append of elements that lie in a slice that is read. -/
theorem app_rd (t e : TypeId) (z : Value) (size bytes : Nat) (ht : Try.prog.underlying t = some (.slice e)) (hinfo : (Try.prog.info? e).map (fun i => (i.zero, i.size, i.bytes)) = some (some z, size, bytes)) (hzs : z.cells.size = size) (hsz : 0 < size) (hby : bytes ≤ 64)
    (hgd : o.guard = none) (s x : Operand) (ho : o.op = .call { callee := .builtin .append, args := #[s, x], argTypes := #[t, t] })
    (base : Nat) (A : Option Addr) (n c : Nat) (xs : List Value) (hown : OR w base e size A n c xs) (hs : a.eval s = .slice A n c)
    (B : Nat) (ad : Addr) (m cc : Nat) (news : List Value) (hx : a.eval x = .slice (some ad) m cc) (hrd : Reads w B size (some ad) m news)
    (h1 : ∀ u ∈ news, u.oneCell' = true) (hn : n + m ≤ 1000000000000) (hbase : base ≤ w.heap.size)
    (hK : ∀ A' c' w', OR w' base e size A' (n + m) c' (xs ++ news) → w.grownBy w' (Value.ownBlock (.slice A n c)) → wpList Try.prog ops Q rest (a.put o.dst (.slice A' (n + m) c')) w') :
    wpList Try.prog ops Q (o :: rest) a w := by
  obtain ⟨i0, hi, hz0, hz1, hz2⟩ := info_parts hinfo
  have hb : (n + m) * bytes ≤ 140737488355328 := Nat.le_trans (Nat.mul_le_mul_left _ hby) (by omega)
  refine wpList_append_own _ hgd s x t ho base e i0 z size bytes ht hi hz0 hz1 hz2 hzs hsz _ _ _ hs hown ad m cc news hx hrd.1 ?_ h1 (by unfold maxLen; omega) hb hbase ?_
  · intro j u hu
    rcases Nat.eq_zero_or_pos m with h0 | h0
    · subst h0
      have := hrd.1
      rw [Nat.zero_mul] at this
      rw [List.eq_nil_of_length_eq_zero this] at hu
      simp at hu
    · obtain ⟨b, off, e1, _, hc⟩ := hrd.2 h0
      injection e1 with e1
      subst e1
      rw [add_lit]
      exact hc j u hu
  · intro v' w' hown' hgrow _
    obtain ⟨A', c', rfl, h'⟩ := OR.slice_ hown'
    exact hK A' c' w' h' hgrow
end

theorem ints_one (l : List Int) : ∀ u ∈ l.map (Value.int .i64), u.oneCell' = true := by
  intro u hu
  obtain ⟨x, _, rfl⟩ := List.mem_map.1 hu
  rfl
theorem cds_one (l : List Cd) : ∀ u ∈ cdsCells l, u.oneCell' = true := by
  intro u hu
  simp only [cdsCells, List.mem_flatMap] at hu
  obtain ⟨x, _, hu⟩ := hu
  simp [cdCells] at hu
  rcases hu with rfl | rfl | rfl | rfl <;> rfl

set_option maxRecDepth 100000 in
set_option maxHeartbeats 1000000 in
theorem cloneI_c (A : Option Addr) (c : Nat) (l : List Int) (w : World) (hA : RdI w w.heap.size A l) (hl : l.length ≤ 1000000000) (hc : A = none → c = 0) :
    Calls Try.prog 113 #[.slice A l.length c] w (fun e w' => ∃ A' c', e = .returned (.slice A' l.length c') ∧ OI w' w.heap.size A' l.length c' l ∧ Below w.heap.size w w') := by
  cases A with
  | none =>
    have hl0 : l = [] := by
      rcases Nat.eq_zero_or_pos l.length with h | h
      · exact List.eq_nil_of_length_eq_zero h
      · obtain ⟨b, off, e, _⟩ := hA.2 (by omega); cases e
    subst hl0
    obtain rfl := hc rfl
    have k1 := fun w' : World => Lib.run_eql_slice_nil (P := Try.prog) w' 47 3 none 0 0 0 0 Try.underlying47
    go_enter Try.func113, Try.ntmps113
    go_wp2
    go_ret
    exact ⟨none, 0, rfl, OI.nil_ _ _, (by repeat (first | exact Below.refl _ _ | assumption | refine Below.alloc ?_ (by simp <;> omega) _ | refine Below.setCell ?_ (by simp <;> omega) _ | refine Below.drew ?_))⟩
  | some ad =>
    have k1 := fun w' : World => Lib.run_eql_slice_nil (P := Try.prog) w' 47 3 (some ad) l.length c 0 0 Try.underlying47
    have ho := Lib.hid (OI.empty_ w w.heap.size (Nat.le_refl _))
    have hA2 := Lib.hid (hA.below ((Below.refl w.heap.size w).alloc (Nat.le_refl _) (.cells #[] 3)))
    go_enter Try.func113, Try.ntmps113
    go_wp2_with (at_builtin; refine app_rd 47 3 _ 1 8 Try.underlying47 infoInt rfl (by decide) (by decide) rfl _ _ rfl w.heap.size _ 0 0 _ ho.out rfl w.heap.size ad l.length c _ rfl hA2.out (ints_one l) ?hn ?hb ?_)
    case hn => omega
    case hb => simp
    intro A' c' w2 ho2 hg2
    clear k1
    go_wp2
    go_ret
    refine ⟨A', c', by simp, ?_, ?_⟩
    · exact ho2
    · exact ((Below.refl w.heap.size w).alloc (Nat.le_refl _) _).grown hg2 (by simp) (fun k hk => by simp [Value.ownBlock] at hk; omega)

set_option maxRecDepth 100000 in
set_option maxHeartbeats 1000000 in
theorem cloneC_c (A : Option Addr) (c : Nat) (l : List Cd) (w : World) (hA : RdC w w.heap.size A l) (hl : l.length ≤ 1000000000) (hc : A = none → c = 0) :
    Calls Try.prog 96 #[.slice A l.length c] w (fun e w' => ∃ A' c', e = .returned (.slice A' l.length c') ∧ OC w' w.heap.size A' l.length c' l ∧ Below w.heap.size w w') := by
  cases A with
  | none =>
    have hl0 : l = [] := by
      rcases Nat.eq_zero_or_pos l.length with h | h
      · exact List.eq_nil_of_length_eq_zero h
      · obtain ⟨b, off, e, _⟩ := hA.2 (by omega); cases e
    subst hl0
    obtain rfl := hc rfl
    have k1 := fun w' : World => Lib.run_eql_slice_nil (P := Try.prog) w' 24 45 none 0 0 0 0 Try.underlying24
    go_enter Try.func96, Try.ntmps96
    go_wp2
    go_ret
    exact ⟨none, 0, rfl, OC.nil_ _ _, (by repeat (first | exact Below.refl _ _ | assumption | refine Below.alloc ?_ (by simp <;> omega) _ | refine Below.setCell ?_ (by simp <;> omega) _ | refine Below.drew ?_))⟩
  | some ad =>
    have k1 := fun w' : World => Lib.run_eql_slice_nil (P := Try.prog) w' 24 45 (some ad) l.length c 0 0 Try.underlying24
    have ho := Lib.hid (OC.empty_ w w.heap.size (Nat.le_refl _))
    have hA2 := Lib.hid (hA.below ((Below.refl w.heap.size w).alloc (Nat.le_refl _) (.cells #[] 45)))
    go_enter Try.func96, Try.ntmps96
    go_wp2_with (at_builtin; refine app_rd 24 45 _ 4 32 Try.underlying24 infoCode rfl (by decide) (by decide) rfl _ _ rfl w.heap.size _ 0 0 _ ho.out rfl w.heap.size ad l.length c _ rfl hA2.out (cds_one l) ?hn ?hb ?_)
    case hn => omega
    case hb => simp
    intro A' c' w2 ho2 hg2
    clear k1
    go_wp2
    go_ret
    refine ⟨A', c', by simp, ?_, ?_⟩
    · exact ho2
    · exact ((Below.refl w.heap.size w).alloc (Nat.le_refl _) _).grown hg2 (by simp) (fun k hk => by simp [Value.ownBlock] at hk; omega)
end Go.Proofs.Ytcpjhlkcfohkiaa
