/- The program's graphOf. -/
import Derived.Test.YtcpjhlkcfohkiaaLive7
namespace Go.Proofs.Ytcpjhlkcfohkiaa
open Go.RowKit
set_option linter.unusedVariables false
set_option linter.unusedSimpArgs false

theorem make_rows (n : Nat) (hn : n ≤ 1000000000000) (w : World) :
    (Instr.makeSlice 57 (.int .i64 (n : Int)) (.int .i64 (n : Int))).run Try.prog w = .ok (.slice (some ⟨w.heap.size, 0, none⟩) n n) (w.alloc (.cells (zeroRow (.slice none 0 0) n) 47)) := by
  obtain ⟨i0, hi, hz0, hz1, hz2⟩ := info_parts infoRows
  have := run_make_rowN (P := Try.prog) 57 47 i0 _ Try.underlying57 hi hz0 .i64 .i64 n n (Nat.le_refl _) (by rw [hz2]; omega) (by omega) w
  rw [hz1, Nat.mul_one] at this
  exact this

/-- A graph whose first k rows are there. -/
def GPart (w : World) (base gb : Nat) (l : List Cd) (k : Nat) : Prop :=
  ∃ vs, OR w base 47 1 (some ⟨gb, 0, none⟩) (l.length + 1) (l.length + 1) vs ∧ (∀ j, j < k → ∃ A' c', vs[j]? = some (.slice A' (succI l j).length c') ∧ OI w base A' (succI l j).length c' (succI l j)) ∧ ∀ j, k ≤ j → j ≤ l.length → vs[j]? = some (.slice none 0 0)
theorem GPart.below {w w' : World} {base gb k : Nat} {l : List Cd} (h : GPart w base gb l k) (hb : Below w.heap.size w w') : GPart w' base gb l k := by
  obtain ⟨vs, h1, h2, h3⟩ := h
  refine ⟨vs, h1.below hb (Nat.le_refl _), fun j hj => ?_, h3⟩
  obtain ⟨A', c', e, hr⟩ := h2 j hj
  exact ⟨A', c', e, OR.below hr hb (Nat.le_refl _)⟩
theorem GPart.put {w : World} {base gb k : Nat} {l : List Cd} (h : GPart w base gb l k) (hk : k < l.length) {A' : Option Addr} {c' : Nat} (hr : OI w base A' (succI l k).length c' (succI l k)) : GPart (w.setCell ⟨gb, k, none⟩ (.slice A' (succI l k).length c')) base gb l (k + 1) := by
  obtain ⟨vs, h1, h2, h3⟩ := h
  obtain ⟨cur, hblk⟩ := OR.heap_ h1
  have hl : vs.length = l.length + 1 := by have := h1.len; omega
  refine ⟨_, (OR.at0 h1).2.2 k _, fun j hj => ?_, fun j hj hj2 => ?_⟩
  · by_cases e : j = k
    · subst e
      exact ⟨A', c', by rw [List.getElem?_set, if_pos rfl, if_pos (by omega)], OR.set_other hr (p := ⟨gb, j, none⟩) (own_ne hr hblk (by decide)) _⟩
    · obtain ⟨B', d', e1, e2⟩ := h2 j (by omega)
      exact ⟨B', d', by rw [List.getElem?_set, if_neg (by omega)]; exact e1, OR.set_other e2 (p := ⟨gb, k, none⟩) (own_ne e2 hblk (by decide)) _⟩
  · rw [List.getElem?_set, if_neg (by omega)]
    exact h3 j (by omega) hj2
theorem GPart.done {w : World} {base gb : Nat} {l : List Cd} (h : GPart w base gb l l.length) : GOw w base (some ⟨gb, 0, none⟩) (l.length + 1) (l.length + 1) (succI l) (l.length + 1) := by
  obtain ⟨vs, h1, h2, h3⟩ := h
  refine ⟨vs, h1, fun j hj => ?_⟩
  by_cases e : j = l.length
  · subst e
    refine ⟨none, 0, ?_, ?_⟩
    · rw [succI_end]; exact h3 _ (Nat.le_refl _) (Nat.le_refl _)
    · rw [succI_end]; exact OI.nil_ _ _
  · exact h2 j (by omega)

def IGRel (w : World) (l : List Cd) (gb : Nat) (kv : Value) (wr : World) : Prop :=
  ∃ k : Nat, k ≤ l.length ∧ kv = .int .i64 k ∧ GPart wr w.heap.size gb l k ∧ Below w.heap.size w wr ∧ gb < wr.heap.size

set_option maxRecDepth 100000 in
set_option maxHeartbeats 8000000 in
theorem iGraphOf_c (A : Option Addr) (c : Nat) (l : List Cd) (w : World) (hA : RdC w w.heap.size A l) (hp : pv l = true) :
    Calls Try.prog 124 #[.slice A l.length c] w (RetG w l) := by
  have h40 := (pv_iff.1 hp).1
  have HP := Lib.hid hp
  have hmk : ∀ w : World, (Instr.makeSlice 57 (.int .i64 ((l.length : Int) + 1)) (.int .i64 ((l.length : Int) + 1))).run Try.prog w = .ok (.slice (some ⟨w.heap.size, 0, none⟩) (l.length + 1) (l.length + 1)) (w.alloc (.cells (zeroRow (.slice none 0 0) (l.length + 1)) 47)) := by
    have := make_rows (l.length + 1) (by omega)
    simpa using this
  clear hp
  go_enter Try.func124, Try.ntmps124
  go_wp2_with fail
  refine (blocks_c A c l w hA (by omega) (pv_all HP.out)).mono ?_
  rintro e w1 ⟨hb1, hcase⟩
  rcases hcase with ⟨_, rfl, ga, oth, en, As, cs, hW, hP⟩ | ⟨hp2, _⟩
  case inr => exact absurd (pv_iff.1 HP.out).2 hp2
  have hBK := BK.of hW hP
  have hs1 := hb1.size
  clear hW hP
  go_wp2_with fail
  have hG0 : GPart (w1.alloc (.cells (zeroRow (.slice none 0 0) (l.length + 1)) 47)) w.heap.size w1.heap.size l 0 := by
    have h := OR.lit w1 w.heap.size 47 1 (l.length + 1) (zeroRow (.slice none 0 0) (l.length + 1)) hs1 (by omega) (by rw [zeroRow_size]; omega)
    have e : (zeroRow (.slice none 0 0) (l.length + 1)).toList = List.replicate (l.length + 1) (.slice none 0 0) := toList_madeCells_one _ _
    rw [e] at h
    exact ⟨_, h, fun j hj => by omega, fun j _ hj => by rw [List.getElem?_replicate, if_pos (by omega)]⟩
  have hb2 := hb1.alloc hs1 (.cells (zeroRow (.slice none 0 0) (l.length + 1)) 47)
  have hX2 := Ext.alloc w1 (.cells (zeroRow (.slice none 0 0) (l.length + 1)) 47)
  have hBK2 := hBK.below hX2.below
  have hgb : w1.heap.size < (w1.alloc (.cells (zeroRow (.slice none 0 0) (l.length + 1)) 47)).heap.size := by simp
  clear hmk hBK hX2
  generalize w1.alloc (.cells (zeroRow (.slice none 0 0) (l.length + 1)) 47) = w2 at *
  have HBK := Lib.hid hBK2
  generalize w1.heap.size = gb at *
  clear hBK2
  go_loopw [20] (fun kv wr => IGRel w l gb kv wr ∧ BK wr w.heap.size l (w.heap.size + 1) ga) (fun kv _ => l.length - (intOf kv).toNat)
  case atStart => exact ⟨⟨0, Nat.zero_le _, rfl, hG0, hb2, hgb⟩, HBK.out⟩
  case round =>
    clear hG0 hb2 hgb
    obtain ⟨⟨k, hk, rfl, hG, hb, hgb⟩, hBK⟩ := hrel
    have hs := hb.size
    by_cases hlt : k < l.length
    · have hkI : (k : Int) < ((l.length + 1 : Nat) : Int) := by omega
      go_wp2_with fail
      refine (successors_c A c l k w.heap.size (w.heap.size + 1) ga wr ((hA.below hb).more hs) HP.out hlt hBK).mono ?_
      rintro e w3 ⟨A3, c3, rfl, ho3, hb3⟩
      have hG3 := hG.below hb3
      have hbW3 := below_trans hb (Nat.le_refl _) hb3
      have hBK3 := hBK.below hb3
      have HPUT := Lib.hid (hG3.put hlt (OR.mono ho3 hs))
      obtain ⟨vs, g1, g2, g3⟩ := hG3
      obtain ⟨cur, hblk⟩ := OR.heap_ g1
      have hgB := (OR.base_le g1).1
      have hBK4 : ∀ u, BK (w3.setCell ⟨gb, k, none⟩ u) w.heap.size l (w.heap.size + 1) ga := fun u =>
        ⟨OR.set_other hBK3.own (p := ⟨gb, k, none⟩) (own_ne hBK3.own hblk (by decide)) u, fun p hp ho => by
          have := hBK3.bks p hp ho
          rw [heap_set_other (type_ne this hblk (by decide))]
          exact this⟩
      have HBK4 := Lib.hid hBK4
      have cS := (OR.at0 g1).1 k _ (g3 k (Nat.le_refl _) (by omega))
      have f1 := (OR.at0 g1).2.1 k
      have hgb3 : gb < w3.heap.size := (OR.base_le g1).2
      clear g1 g2 g3 hblk hBK3 hBK4 hG hBK
      go_wp2
      go_roundw
      case rel => exact ⟨⟨k + 1, by omega, by go_num, HPUT.out, hbW3.setCell hgB _, by rw [size_set]; exact hgb3⟩, HBK4.out _⟩
      case measure => simp [intOf]; omega
    · obtain rfl : k = l.length := by omega
      go_wp2
      go_ret
      exact ⟨_, _, rfl, hG.done, hb⟩
end Go.Proofs.Ytcpjhlkcfohkiaa
