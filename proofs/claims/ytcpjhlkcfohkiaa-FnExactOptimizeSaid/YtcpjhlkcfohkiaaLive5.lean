/- The reference's DeadPlaces. -/
import Derived.Test.YtcpjhlkcfohkiaaLive4
import Derived.Test.YtcpjhlkcfohkiaaLockM
import Derived.Test.YtcpjhlkcfohkiaaClone
import Derived.Maps.AppendAt
namespace Go.Proofs.Ytcpjhlkcfohkiaa
open Go.RowKit
set_option linter.unusedVariables false
set_option linter.unusedSimpArgs false

theorem deadB_no {l : List Cd} {k : Nat} (h : wset (cdAt l k) = 0) : deadB l k = false := by simp [deadB, h, mdiff_zero]
theorem deadB_bit {l : List Cd} {k a : Nat} (h : wset (cdAt l k) = 2 ^ a) : deadB l k = !(outSet l (liveFix l) k).testBit a := by
  unfold deadB
  rw [h]
  congr 1
  cases hb : (outSet l (liveFix l) k).testBit a with
  | true =>
    rw [beq_iff_eq]
    apply Nat.eq_of_testBit_eq
    intro i
    rw [testBit_mdiff, Nat.testBit_two_pow]
    by_cases e : a = i
    · subst e; simp [hb]
    · simp [e]
  | false =>
    rw [beq_eq_false_iff_ne]
    intro e
    have := congrArg (fun n => n.testBit a) e
    simp [testBit_mdiff, hb] at this
theorem bit_tm0 (m k : Nat) : ((((m : Int) / 2 ^ k).tmod 2) == 0) = !m.testBit k := by
  have h := bit_tm m k
  have e : ((m : Int) / 2 ^ k) = ((m >>> k : Nat) : Int) := by
    rw [Nat.shiftRight_eq_div_pow]; simp
  rw [e, Int.tmod_eq_emod_of_nonneg (Int.natCast_nonneg _)] at h ⊢
  rw [← h]
  generalize m >>> k = q
  have : (q : Int) % 2 = 0 ∨ (q : Int) % 2 = 1 := by omega
  rcases this with h | h <;> rw [h] <;> rfl

/-- append of one number; where the new row lies. -/
theorem app_intA {w : World} {ops : Array Oper} {rest : List Oper} {o : Oper} {a : Act} {Q : Exit → Act → World → Prop} (hgd : o.guard = none) (s x : Operand) (ho : o.op = .call { callee := .builtin .append, args := #[s, x], argTypes := #[47, 47] })
    (base : Nat) (A : Option Addr) (n c : Nat) (xs : List Int) (hown : OI w base A n c xs) (hs : a.eval s = .slice A n c)
    (y : Int) (g cc : Nat) (hx : a.eval x = .slice (some ⟨g, 0, none⟩) 1 cc) (hc : w.cell? ⟨g, 0, none⟩ = some (.int .i64 y)) (hn : n < 1000000000000) (hbase : base ≤ w.heap.size)
    (hK : ∀ A' c' w', OI w' base A' (n + 1) c' (xs ++ [y]) → w.grownBy w' (Value.ownBlock (.slice A n c)) → (Value.ownBlock (.slice A' (n + 1) c') = Value.ownBlock (.slice A n c) ∨ Value.ownBlock (.slice A' (n + 1) c') = some w.heap.size) → wpList Try.prog ops Q rest (a.put o.dst (.slice A' (n + 1) c')) w') :
    wpList Try.prog ops Q (o :: rest) a w := by
  obtain ⟨i0, hi, hz0, hz1, hz2⟩ := info_parts infoInt
  refine wpList_append_own_at _ hgd s x 47 ho base 3 i0 _ 1 8 Try.underlying47 hi hz0 hz1 hz2 rfl (by decide) _ _ _ hs hown ⟨g, 0, none⟩ 1 cc [.int .i64 y] hx rfl ?_ ?_ (by unfold maxLen; omega) (by omega) hbase ?_
  · intro j u hu
    match j, hu with
    | 0, hu => simp at hu; subst hu; rw [add_lit]; exact hc
  · intro u hu; simp at hu; subst hu; rfl
  · intro v' w' hown' hgrow _ hat
    obtain ⟨A', c', rfl, h'⟩ := OR.slice_ hown'
    exact hK A' c' w' (by unfold OI; rw [List.map_append]; exact h') hgrow hat
theorem GOw.keepTo {w w' : World} {base n c m : Nat} {A : Option Addr} {f : Nat → List Int} (h : GOw w base A n c f m) (hk : ∀ k, k < w.heap.size → base ≤ k → w'.heap[k]? = w.heap[k]?) : GOw w' base A n c f m := by
  obtain ⟨vs, h1, h2⟩ := h
  refine ⟨vs, h1.keep hk, fun k hk' => ?_⟩
  obtain ⟨A', c', e, hr⟩ := h2 k hk'
  exact ⟨A', c', e, OR.keep hr hk⟩

def natL (xs : List Nat) : List Int := xs.map fun (k : Nat) => (k : Int)
def DPRel (w w2 : World) (l : List Cd) (ov kv : Value) (wr : World) : Prop :=
  ∃ (k : Nat) (A : Option Addr) (c : Nat), k ≤ l.length ∧ kv = .int .i64 k ∧ ov = .slice A (deadN l k).length c ∧ OI wr w.heap.size A (deadN l k).length c (natL (deadN l k)) ∧ Below w.heap.size w wr ∧
    Hid (∀ b, Value.ownBlock (.slice A (deadN l k).length c) = some b → b = w.heap.size ∨ w2.heap.size ≤ b) ∧ Hid (∀ b, b < w2.heap.size → w.heap.size + 1 ≤ b → wr.heap[b]? = w2.heap[b]?) ∧ w2.heap.size ≤ wr.heap.size

set_option maxRecDepth 100000 in
set_option maxHeartbeats 8000000 in
theorem sDeadPlaces_c (A : Option Addr) (c : Nat) (l : List Cd) (w : World) (hA : RdC w w.heap.size A l) (hp : pv l = true) :
    Calls Try.prog 101 #[.slice A l.length c] w (RetI w (deadL l)) := by
  have h40 := (pv_iff.1 hp).1
  have HP := Lib.hid hp
  have HFX := Lib.hid (fix_is hp)
  have hb0 := (Below.refl w.heap.size w).alloc (Nat.le_refl _) (.cells #[] 3)
  have ho0 := OI.empty_ w w.heap.size (Nat.le_refl _)
  have HO0 := Lib.hid ho0
  have HB0 := Lib.hid hb0
  clear ho0 hb0
  go_enter Try.func101, Try.ntmps101
  go_wp2_with fail
  refine (sLiveSets_c A c l _ ((hA.below HB0.out).more HB0.out.size) HP.out).mono ?_
  rintro e w1 ⟨AL, cL, rfl, hoL, hb1⟩
  rw [lvRow_len]
  have hbW1 := below_trans HB0.out (Nat.le_refl _) hb1
  have ho1 := OR.below HO0.out hb1 (Nat.le_refl _)
  have hs01 := hb1.size
  simp only [World.size_alloc] at hs01
  have hOL : OI w1 (w.heap.size + 1) AL (l.length + 1) cL (lvRow (liveFix l) (l.length + 1)) := by
    rcases hoL with ⟨h0, _⟩ | h
    · rw [lvRow_len] at h0; omega
    · rw [lvRow_len] at h; simpa using h
  clear hoL
  go_wp2_with fail
  refine (sGraphOf_c A c l w1 ((hA.below hbW1).more hbW1.size) HP.out).mono ?_
  rintro e w2 ⟨Ag, cg, rfl, hG, hb2⟩
  have hbW2 := below_trans hbW1 (Nat.le_refl _) hb2
  have ho2 := OR.below ho1 hb2 (Nat.le_refl _)
  have HG := Lib.hid (hG.mono hs01)
  have HL := Lib.hid (OR.below hOL hb2 (Nat.le_refl _))
  have hs2 := hbW2.size
  have hs12 := hb2.size
  clear hOL ho1 hb1 hb2 hG
  go_wp2
  go_loopw [3, 6] (fun ov kv wr => DPRel w w2 l ov kv wr) (fun _ kv _ => l.length - (intOf kv).toNat)
  case atStart => exact ⟨0, _, 0, Nat.zero_le _, rfl, rfl, ho2, hbW2, Lib.hid (fun b hb => .inl (by simp [Value.ownBlock] at hb; exact hb.symm)), Lib.hid (fun b _ _ => rfl), Nat.le_refl _⟩
  case round =>
    clear ho2 hbW2 hs2
    obtain ⟨k, A1, c1, hk, rfl, rfl, ho, hb, HAB, HKP, hww⟩ := hrel
    have hs := hb.size
    have hlp : decide ((0 : Int) < ((l.length + 1 : Nat) : Int)) = true := decide_eq_true (by omega)
    by_cases hlt : k < l.length
    · obtain ⟨b, off, x, rfl, hbB, hx, d0, d1, d2, d3⟩ := (hA.below hb).at_ hlt
      have hcd := cdAt_get hx
      have HX := Lib.hid hx
      have HVX := Lib.hid (pv_all HP.out _ (List.mem_of_getElem? hx))
      have HSU := Lib.hid (deadN_succ l k)
      have hdl := deadN_len l k
      clear hx
      go_wp2_with fail
      refine (sCodeWrites_c x _).mono ?_
      rintro e w3 ⟨rfl, hb3⟩
      have hbW3 := below_trans hb (Nat.le_refl _) hb3
      have ho3 := OR.below ho hb3 (Nat.le_refl _)
      have hs3 := hbW3.size
      have hww3 := hb3.size
      have HKP3 := Lib.hid (show ∀ b, b < w2.heap.size → w.heap.size + 1 ≤ b → w3.heap[b]? = w2.heap[b]? from fun b h1 h2 => (hb3.block b (by omega)).trans (HKP.out b h1 h2))
      clear ho d0 d1 d2 d3
      have hwr : (wreg x = -1 ∧ wset x = 0) ∨ (∃ a : Nat, a ≤ 3 ∧ wreg x = (a : Int) ∧ wset x = 2 ^ a) := by
        have ha := cvOk_a HVX.out
        unfold wreg wset
        cases hc : (cvOk x && inR x.op 1 8) with
        | false => exact .inl ⟨rfl, rfl⟩
        | true => exact .inr ⟨x.a.toNat, by omega, by simp only [if_true]; omega, rfl⟩
      rcases hwr with ⟨hw1, hw2⟩ | ⟨a, ha3, hw1, hw2⟩
      · have hD := Lib.hid (show deadN l (k + 1) = deadN l k by rw [HSU.out, deadB_no (by rw [hcd]; exact hw2)]; simp)
        rw [hw1]
        clear hcd hw1 hw2
        go_wp2
        go_roundw
        case rel => exact ⟨k + 1, A1, c1, by omega, by go_num, by rw [hD.out], by rw [hD.out]; exact ho3, hbW3, by rw [hD.out]; exact HAB, HKP3, by omega⟩
        case measure => simp [intOf]; omega
      · have hDB := Lib.hid (show deadB l k = !(outSet l (liveFix l) k).testBit a from deadB_bit (by rw [hcd]; exact hw2))
        have hG3 : GRd w3 w3.heap.size Ag (succI l) (l.length + 1) := (HG.out.keepTo HKP3.out).rd
        have hL3 : RdI w3 w3.heap.size AL (lvRow (liveFix l) (l.length + 1)) := by
          have := OR.reads (OR.keep HL.out HKP3.out)
          unfold RdI
          rw [lvRow_len]
          exact this
        rw [hw1]
        clear hcd hw1 hw2
        go_wp2_with fail
        refine (l19Out_c Ag AL cg cL l (liveFix l) k w3 hG3 hL3 HP.out hlt HFX.out.1.b16).mono ?_
        rintro e w4 ⟨rfl, hb4⟩
        have hbW4 := below_trans hbW3 (Nat.le_refl _) hb4
        have ho4 := OR.below ho3 hb4 (Nat.le_refl _)
        have hs4 := hbW4.size
        have hww4 := hb4.size
        have HKP4 := Lib.hid (show ∀ b, b < w2.heap.size → w.heap.size + 1 ≤ b → w4.heap[b]? = w2.heap[b]? from fun b h1 h2 => (hb4.block b (by omega)).trans (HKP3.out b h1 h2))
        have hbt := bit_tm0 (outSet l (liveFix l) k) a
        generalize outSet l (liveFix l) k = o at *
        clear ho3 hG3 hL3 hb4
        cases hbit : o.testBit a with
        | true =>
          rw [hbit] at hbt
          have hD := Lib.hid (show deadN l (k + 1) = deadN l k by rw [HSU.out, hDB.out, hbit]; simp)
          clear hbit
          go_wp2
          go_roundw
          case rel => exact ⟨k + 1, A1, c1, by omega, by go_num, by rw [hD.out], by rw [hD.out]; exact ho4, hbW4, by rw [hD.out]; exact HAB, HKP4, by omega⟩
          case measure => simp [intOf]; omega
        | false =>
          rw [hbit] at hbt
          have hD := Lib.hid (show deadN l (k + 1) = deadN l k ++ [k] by rw [HSU.out, hDB.out, hbit]; simp)
          have hlen : (deadN l (k + 1)).length = (deadN l k).length + 1 := by rw [hD.out]; simp
          have HO4 := Lib.hid (OR.alloc ho4 (.cells #[.int .i64 k] 3))
          clear hbit
          go_wp2_with (at_builtin; refine app_intA rfl _ _ rfl w.heap.size A1 _ c1 _ HO4.out rfl k w4.heap.size 1 rfl ?hc ?hn ?hb ?_)
          case hc => simp [go_sem]
          case hn => omega
          case hb => simp; omega
          intro A' c' w5 ho5 hg5 hat5
          have hb5 := below_app hbW4 hs4 ho4 (Nat.le_refl _) hg5
          have hs5 := hg5.size
          simp only [World.size_alloc] at hs5 hat5
          have HAB5 := Lib.hid (show ∀ b, Value.ownBlock (.slice A' ((deadN l k).length + 1) c') = some b → b = w.heap.size ∨ w2.heap.size ≤ b from fun b hb => by
            rcases hat5 with h | h
            · exact HAB.out b (by rw [← h]; exact hb)
            · rw [h] at hb; injection hb with hb; exact .inr (by omega))
          have HKP5 := Lib.hid (show ∀ b, b < w2.heap.size → w.heap.size + 1 ≤ b → w5.heap[b]? = w2.heap[b]? from fun b h1 h2 =>
            (hg5.block b (by simp; omega) (fun e => by rcases HAB.out b e.symm with h | h <;> omega)).trans ((Below.heap_alloc w4 _ b (by omega)).trans (HKP4.out b h1 h2)))
          clear hat5
          go_wp2
          go_roundw
          case rel => exact ⟨k + 1, A', c', by omega, by go_num, by rw [hlen], by rw [hlen]; unfold natL at *; rw [hD.out, List.map_append]; exact ho5, hb5, by rw [hlen]; exact HAB5, HKP5, by omega⟩
          case measure => simp [intOf]; omega
    · obtain rfl : k = l.length := by omega
      have hdl : (deadL l).length = (deadN l l.length).length := by simp [deadL]
      go_wp2
      go_ret
      refine ⟨A1, c1, ?_, ?_, hb⟩
      · rw [hdl]; rfl
      · exact .inr (by rw [hdl]; exact ho)
end Go.Proofs.Ytcpjhlkcfohkiaa
