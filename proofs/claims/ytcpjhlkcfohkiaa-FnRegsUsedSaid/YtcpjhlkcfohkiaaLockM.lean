/- Words for memory that both packages' runs in lockstep share. -/
import Derived.Test.YtcpjhlkcfohkiaaLock1
namespace Go.Proofs.Ytcpjhlkcfohkiaa
open Go.RowKit
set_option linter.unusedVariables false
set_option linter.unusedSimpArgs false

theorem OR.off {w w' : World} {base e size n c b c' : Nat} {A : Option Addr} {xs : List Value} (h : OR w base e size A n c xs) (ho : Off w w' b c') (h1 : Value.ownBlock (.slice A n c) ≠ some b) (h2 : Value.ownBlock (.slice A n c) ≠ some c') : OR w' base e size A n c xs := by
  refine ⟨h.1, ?_⟩
  rcases h.2 with hn | ⟨g, cap, cur, hv, hbg, hg, r⟩
  · exact .inl hn
  · rw [hv] at h1 h2
    exact .inr ⟨g, cap, cur, hv, hbg, by rw [ho.block g (lt_of_block hg) (fun e => h1 (by rw [e]; rfl)) (fun e => h2 (by rw [e]; rfl))]; exact hg, r⟩
theorem Off.below {w w' : World} {b c B : Nat} (h : Off w w' b c) (hb : B ≤ b) (hc : B ≤ c) (hB : B ≤ w.heap.size) : Below B w w' :=
  ⟨h.os, h.tape, h.output, h.size, fun k hk => h.block k (by omega) (by omega) (by omega)⟩

theorem bit_tm (m k : Nat) : ((((m : Int) / 2 ^ k).tmod 2) == 1) = m.testBit k := by
  have e : ((m : Int) / 2 ^ k) = ((m >>> k : Nat) : Int) := by
    rw [Nat.shiftRight_eq_div_pow]; simp
  rw [e, Int.tmod_eq_emod_of_nonneg (Int.natCast_nonneg _)]
  have h2 : m.testBit k = decide ((m >>> k) % 2 = 1) := by
    have : (m >>> k).testBit 0 = m.testBit k := by rw [Nat.testBit_shiftRight]; simp
    rw [← this, Nat.testBit_zero]
  rw [h2]
  generalize m >>> k = q
  cases h : decide (q % 2 = 1) with
  | true => rw [beq_iff_eq]; have := of_decide_eq_true h; omega
  | false => rw [beq_eq_false_iff_ne]; have := of_decide_eq_false h; omega

theorem OR.byType {w w' : World} {base e size n c : Nat} {A : Option Addr} {xs : List Value} (h : OR w base e size A n c xs) (hk : ∀ (g : Nat) (cs : Array Value), w.heap[g]? = some (.cells cs e (0, 0)) → w'.heap[g]? = some (.cells cs e (0, 0))) : OR w' base e size A n c xs := by
  rcases h.2 with ⟨hv, hn⟩ | ⟨g, cap, cur, hv, hb, hg, hrest⟩
  · exact ⟨h.1, .inl ⟨hv, hn⟩⟩
  · exact ⟨h.1, .inr ⟨g, cap, cur, hv, hb, hk g cur hg, hrest⟩⟩
/-- Behind an append to a row, a block of another type reads as before. -/
theorem grown_cell {wb w2 : World} {base e size n c : Nat} {A : Option Addr} {xs : List Value} (hT : OR wb base e size A n c xs) (hg : wb.grownBy w2 (Value.ownBlock (.slice A n c))) {b : Nat} {cs : Array Value} {t : TypeId} (hb : wb.heap[b]? = some (.cells cs t (0, 0))) (hne : e ≠ t) (i : Nat) :
    w2.cell? ⟨b, i, none⟩ = wb.cell? ⟨b, i, none⟩ := by
  have h2 : w2.heap[b]? = some (.cells cs t (0, 0)) := (hg.block b (lt_of_block hb) (fun e' => own_ne hT hb hne e'.symm)).trans hb
  rw [cell_of_heap h2, cell_of_heap hb]
theorem grown_free {wb w2 : World} {base e size n c : Nat} {A : Option Addr} {xs : List Value} (hT : OR wb base e size A n c xs) (hg : wb.grownBy w2 (Value.ownBlock (.slice A n c))) {b : Nat} {cs : Array Value} {t : TypeId} (hb : wb.heap[b]? = some (.cells cs t (0, 0))) (hne : e ≠ t) (i : Nat) :
    w2.frozen? ⟨b, i, none⟩ = false := by
  have h2 : w2.heap[b]? = some (.cells cs t (0, 0)) := (hg.block b (lt_of_block hb) (fun e' => own_ne hT hb hne e'.symm)).trans hb
  exact free_of_heap h2 i
end Go.Proofs.Ytcpjhlkcfohkiaa
