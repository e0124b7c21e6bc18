/- PackRegs of both packages. -/
import Derived.Test.YtcpjhlkcfohkiaaNames4
import Derived.Test.YtcpjhlkcfohkiaaBitAnd
namespace Go.Proofs.Ytcpjhlkcfohkiaa
open Go.RowKit
set_option linter.unusedVariables false
set_option linter.unusedSimpArgs false

def row4 (t : List Int) : Array Value := #[.int .i64 (nm t 0), .int .i64 (nm t 1), .int .i64 (nm t 2), .int .i64 (nm t 3)]
theorem row4_set {t : List Int} (ht : t.length = 4) {r : Nat} (hr : r < 4) (v : Int) : (row4 t).setIfInBounds r (.int .i64 v) = row4 (t.set r v) := by
  match t, ht with
  | [a, b, c, d], _ =>
    have : r = 0 ∨ r = 1 ∨ r = 2 ∨ r = 3 := by omega
    rcases this with rfl | rfl | rfl | rfl <;> rfl
theorem row4_get (t : List Int) {r : Nat} (hr : r < 4) : (row4 t)[r]? = some (.int .i64 (nm t (r : Int))) := by
  have : r = 0 ∨ r = 1 ∨ r = 2 ∨ r = 3 := by omega
  rcases this with rfl | rfl | rfl | rfl <;> rfl
theorem packSt_len (u : Nat) : ∀ i, (packSt u i).2.length = 4 ∧ (packSt u i).1 ≤ i
  | 0 => ⟨rfl, Nat.le_refl _⟩
  | i + 1 => by
    have h := packSt_len u i
    unfold packSt
    dsimp only
    split
    · exact ⟨by simp [h.1], by simp; omega⟩
    · exact ⟨h.1, by omega⟩
theorem packSi_len (u : Nat) : ∀ i, (packSi u i).2.length = 4 ∧ (packSi u i).1 ≤ i
  | 0 => ⟨rfl, Nat.le_refl _⟩
  | i + 1 => by
    have h := packSi_len u i
    unfold packSi
    dsimp only
    split
    · exact ⟨by simp [h.1], by simp; omega⟩
    · exact ⟨h.1, by omega⟩

def PIRel (w : World) (u B : Nat) (iv nv : Value) (wr : World) : Prop :=
  ∃ r : Nat, r ≤ 4 ∧ iv = .int .i64 r ∧ nv = .int .i64 ((packSi u r).1 : Nat) ∧ Hid (wr.heap[B]? = some (.cells (row4 (packSi u r).2) 83 (0, 0))) ∧ Below w.heap.size w wr

set_option maxRecDepth 100000 in
set_option maxHeartbeats 4000000 in
theorem ipackRegs_c (A : Option Addr) (c : Nat) (l : List Cd) (w : World) (hA : RdC w w.heap.size A l) (hl : l.length ≤ 1000000000) (hp : pv l = true) :
    Calls Try.prog 69 #[.slice A l.length c] w (RetC w (packL l)) := by
  have HR := Lib.hid (show packL l = l.map (ren (nm (packSi (usedOf l) 4).2)) by simp [packL, hp])
  have HV := Lib.hid (pv_all hp)
  have hu := usedOf_lt l
  clear hp
  go_enter Try.func69, Try.ntmps69
  go_wp2_with fail
  have hb0 : Below w.heap.size w (w.alloc (.cells #[.int .i64 0, .int .i64 0, .int .i64 0, .int .i64 0] 83)) := (by repeat (first | exact Below.refl _ _ | assumption | refine Below.alloc ?_ (by simp <;> omega) _ | refine Below.setCell ?_ (by simp <;> omega) _ | refine Below.drew ?_))
  have hz : w.heap.size < (w.alloc (.cells #[.int .i64 0, .int .i64 0, .int .i64 0, .int .i64 0] 83)).heap.size := by simp
  refine (iregsUsed_c A c l _ ((hA.below hb0).more hb0.size) hl).mono ?_
  rintro e w1 ⟨rfl, hb1⟩
  have hb := below_trans hb0 (Nat.le_refl _) hb1
  have hh : w1.heap[w.heap.size]? = some (.cells #[.int .i64 0, .int .i64 0, .int .i64 0, .int .i64 0] 83 (0, 0)) := by
    rw [hb1.block _ hz]
    exact heap_alloc_new w _
  generalize usedOf l = u at *
  have HH := Lib.hid hh
  clear hh
  go_wp2
  go_loopw [9, 4] (fun iv nv wr => PIRel w u w.heap.size iv nv wr) (fun i _ _ => 4 - (intOf i).toNat)
  case atStart => exact ⟨0, by omega, rfl, rfl, HH, hb⟩
  case round =>
    obtain ⟨r, hr, rfl, rfl, H4, hb⟩ := hrel
    have hlen := packSi_len u r
    by_cases hlt : r < 4
    · have hcell : wr.cell? ⟨w.heap.size, r, none⟩ = some (.int .i64 (nm (packSi u r).2 (r : Int))) := by rw [cell_of_heap H4.out, row4_get _ hlt]
      have hfree := free_of_heap H4.out r
      have HS := Lib.hid (show packSi u (r + 1) = if (u >>> r) % 2 = 1 then ((packSi u r).1 + 1, (packSi u r).2.set r ((packSi u r).1 : Int)) else packSi u r from rfl)
      have HL := Lib.hid hlen.1
      have hn := hlen.2
      generalize packSi u r = s at *
      obtain ⟨n, t⟩ := s
      simp only at *
      clear hlen
      have hba := bit_and u r (by omega)
      by_cases hbit : (u >>> r) % 2 = 1
      · have hb1 : (bits .and .i64 ((u : Int) / 2 ^ r) 1 == 1) = true := by rw [hba, hbit]; rfl
        have HB := Lib.hid hbit
        clear hba hbit
        go_wp2
        go_roundw
        case rel =>
          have hs := HS.out
          rw [if_pos HB.out] at hs
          refine ⟨r + 1, by omega, by go_num, by rw [hs]; go_num, ?_, hb.setCell (Nat.le_refl _) _⟩
          show _ = _
          rw [heap_set_same H4.out, row4_set HL.out hlt, hs]
        case measure => simp [intOf]; omega
      · have hb1 : (bits .and .i64 ((u : Int) / 2 ^ r) 1 == 1) = false := by
          rw [hba, beq_eq_false_iff_ne]; omega
        have HB := Lib.hid hbit
        clear hba hbit
        go_wp2
        go_roundw
        case rel =>
          have hs := HS.out
          rw [if_neg HB.out] at hs
          exact ⟨r + 1, by omega, by go_num, by rw [hs], by show _ = _; rw [hs]; exact H4.out, hb⟩
        case measure => simp [intOf]; omega
    · obtain rfl : r = 4 := by omega
      have c0 := cell_of_heap H4.out 0
      have c1 := cell_of_heap H4.out 1
      have c2 := cell_of_heap H4.out 2
      have c3 := cell_of_heap H4.out 3
      rw [row4_get _ (by omega)] at c0 c1 c2 c3
      go_wp2_with fail
      refine (renamed_c A c l (packSi u 4).2 wr ((hA.below hb).more hb.size) hl HV.out).mono ?_
      clear c0 c1 c2 c3
      intro e w2 h
      obtain ⟨A2, c2, rfl, ho, hb2⟩ := h.mono hb
      go_wp2
      go_ret
      rw [HR.out]
      exact ⟨A2, c2, by simp only [List.length_map]; rfl, ho, hb2⟩

theorem rd_row4 {w : World} {B : Nat} {t : List Int} (ht : t.length = 4) (h : w.heap[B]? = some (.cells (row4 t) 3 (0, 0))) : RdI w w.heap.size (some ⟨B, 0, none⟩) t := by
  refine ⟨by simp, fun _ => ⟨B, 0, rfl, lt_of_block h, fun j u hu => ?_⟩⟩
  rw [Nat.zero_add, cell_of_heap h]
  have hj : j < 4 := by
    have := (List.getElem?_eq_some_iff.1 hu).1
    simpa [ht] using this
  rw [row4_get _ hj, ← hu, List.getElem?_map, nm_get ht (by omega)]
  rfl
theorem ren_row4 {w : World} {B : Nat} (A : Option Addr) (c : Nat) (l : List Cd) (t : List Int) (ht : t.length = 4) (h : w.heap[B]? = some (.cells (row4 t) 3 (0, 0))) (hA : RdC w w.heap.size A l) (hl : l.length ≤ 1000000000) :
    Calls Try.prog 54 #[.slice A l.length c, .slice (some ⟨B, 0, none⟩) 4 4] w (RetC w (renameL l t)) := by
  have := sRenameRegs_c A (some ⟨B, 0, none⟩) c 4 l t w hA hl (rd_row4 ht h) (by omega)
  rw [ht] at this
  exact this

theorem pass_bit (u r p : Nat) : (p < 2 → (u >>> r) % 2 = 1 - p → (((u : Int) / 2 ^ r).tmod 2 == 1 - (p : Int)) = true) ∧ (p < 2 → ¬ (u >>> r) % 2 = 1 - p → (((u : Int) / 2 ^ r).tmod 2 == 1 - (p : Int)) = false) := by
  rw [shr_cast]
  generalize u >>> r = m
  rw [Int.tmod_eq_emod_of_nonneg (by omega)]
  refine ⟨fun hp h => ?_, fun hp h => ?_⟩
  · rw [beq_iff_eq]; omega
  · rw [beq_eq_false_iff_ne]; omega

def SKRel0 (w : World) (B : Nat) (i : Nat) (nv : Value) (wr : World) : Prop :=
  ∃ (n : Nat) (t : List Int), nv = .int .i64 n ∧ n ≤ i ∧ Hid (t.length = 4) ∧ Hid (wr.heap[B]? = some (.cells (row4 t) 3 (0, 0))) ∧ Below w.heap.size w wr ∧ w.heap.size ≤ B

def SKRel (w : World) (u B : Nat) (i : Nat) (nv : Value) (wr : World) : Prop :=
  nv = .int .i64 ((packSt u i).1 : Nat) ∧ Hid (wr.heap[B]? = some (.cells (row4 (packSt u i).2) 3 (0, 0))) ∧ Below w.heap.size w wr ∧ w.heap.size ≤ B

set_option maxRecDepth 100000 in
set_option maxHeartbeats 4000000 in
theorem sPackRegs_c (A : Option Addr) (c : Nat) (l : List Cd) (w : World) (hA : RdC w w.heap.size A l) (hl : l.length ≤ 1000000000) :
    Calls Try.prog 66 #[.slice A l.length c] w (RetC w (packL l)) := by
  have hmk := make_int 4 (by omega)
  have hz4 : zeroRow (.int .i64 0) 4 = #[.int .i64 0, .int .i64 0, .int .i64 0, .int .i64 0] := by
    apply Array.ext'
    exact (toList_madeCells_one _ _).trans rfl
  rw [hz4] at hmk
  have hmk' : ∀ w : World, (Instr.makeSlice 47 (.int .i64 4) (.int .i64 4)).run Try.prog w = .ok (.slice (some ⟨w.heap.size, 0, none⟩) 4 4) (w.alloc (.cells #[.int .i64 0, .int .i64 0, .int .i64 0, .int .i64 0] 3)) := hmk
  clear hmk hz4
  cases hp : pv l with
  | true =>
    have HR := Lib.hid (pack_same hp)
    have hu := usedOf_lt l
    have hru : regsUsedI l = (usedOf l : Int) := by simp [regsUsedI, hp]
    clear hp
    go_enter Try.func66, Try.ntmps66
    go_wp2_with fail
    refine (sRegsUsed_c A c l w hA hl).mono ?_
    rintro e w1 ⟨rfl, hb⟩
    rw [hru]
    clear hru
    generalize usedOf l = u at *
    have hb1 := hb.alloc hb.size (.cells #[.int .i64 0, .int .i64 0, .int .i64 0, .int .i64 0] 3)
    have hsz := hb.size
    go_wp2
    clear hmk'
    have HH : Hid ((w1.alloc (.cells #[.int .i64 0, .int .i64 0, .int .i64 0, .int .i64 0] 3)).heap[w1.heap.size]? = some (.cells (row4 (packSt u 0).2) 3 (0, 0))) := heap_alloc_new w1 _
    go_loopw [6, 5] (fun pv nv wr => ∃ p : Nat, p ≤ 2 ∧ pv = .int .i64 (1 - (p : Int)) ∧ SKRel w u w1.heap.size (4 * p) nv wr) (fun pv _ _ => (intOf pv + 1).toNat)
    case atStart => exact ⟨0, by omega, rfl, rfl, HH, hb1, hsz⟩
    case round =>
      clear HH hb1
      obtain ⟨p, hp2, rfl, rfl, H4, hbr, hB⟩ := hrel
      by_cases hlt : p < 2
      · have hge : (0 : Int) ≤ 1 - (p : Int) := by omega
        obtain ⟨wo, rfl⟩ : ∃ wo : World, wo = wr := ⟨_, rfl⟩
        go_wp2
        go_loopw [7, 5] (fun rv nv wr => ∃ r : Nat, r ≤ 4 ∧ rv = .int .i64 r ∧ SKRel w u w1.heap.size (4 * p + r) nv wr) (fun rv _ _ => 4 - (intOf rv).toNat)
        case atStart => exact ⟨0, by omega, rfl, rfl, H4, hbr, hB⟩
        case round =>
          clear H4 hbr
          obtain ⟨r, hr, rfl, rfl, H5, hb5, _⟩ := hrel
          by_cases hlt4 : r < 4
          · have hlen := packSt_len u (4 * p + r)
            have hcell : wr.cell? ⟨w1.heap.size, r, none⟩ = some (.int .i64 (nm (packSt u (4 * p + r)).2 (r : Int))) := by rw [cell_of_heap H5.out, row4_get _ hlt4]
            have hfree := free_of_heap H5.out r
            have HS := Lib.hid (show packSt u (4 * p + r + 1) = if (u >>> r) % 2 = 1 - p then ((packSt u (4 * p + r)).1 + 1, (packSt u (4 * p + r)).2.set r ((packSt u (4 * p + r)).1 : Int)) else packSt u (4 * p + r) by
              have e1 : (4 * p + r) % 4 = r := by omega
              have e2 : (4 * p + r) / 4 = p := by omega
              simp only [packSt, e1, e2])
            have HL := Lib.hid hlen.1
            have hn := hlen.2
            generalize packSt u (4 * p + r) = s at *
            obtain ⟨n, t⟩ := s
            simp only at *
            clear hlen
            have hsc := shr_cast u r
            have htb := pass_bit u r p
            by_cases hbit : (u >>> r) % 2 = 1 - p
            · have hb1 : (((u : Int) / 2 ^ r).tmod 2 == 1 - (p : Int)) = true := htb.1 hlt hbit
              have HB := Lib.hid hbit
              clear hsc hbit htb
              go_wp2
              go_roundw
              case rel =>
                have hs := HS.out
                rw [if_pos HB.out] at hs
                refine ⟨r + 1, by omega, by go_num, by rw [← Nat.add_assoc, hs]; go_num, ?_, hb5.setCell hB _, hB⟩
                show _ = _
                rw [heap_set_same H5.out, row4_set HL.out hlt4, ← Nat.add_assoc, hs]
              case measure => simp [intOf]; omega
            · have hb1 : (((u : Int) / 2 ^ r).tmod 2 == 1 - (p : Int)) = false := htb.2 hlt hbit
              have HB := Lib.hid hbit
              clear hsc hbit htb
              go_wp2
              go_roundw
              case rel =>
                have hs := HS.out
                rw [if_neg HB.out] at hs
                exact ⟨r + 1, by omega, by go_num, by rw [← Nat.add_assoc, hs], by show _ = _; rw [← Nat.add_assoc, hs]; exact H5.out, hb5, hB⟩
              case measure => simp [intOf]; omega
          · obtain rfl : r = 4 := by omega
            go_wp2
            go_roundw
            case rel => exact ⟨p + 1, by omega, by (congr 1; omega), rfl, H5, hb5, hB⟩
            case measure => simp [intOf]; omega
      · obtain rfl : p = 2 := by omega
        have hlen := packSt_len u (4 * 2)
        go_wp2_with fail
        refine (ren_row4 A c l (packSt u (4 * 2)).2 hlen.1 H4.out ((hA.below hbr).more hbr.size) hl).mono ?_
        intro e w2 h
        obtain ⟨A2, c2, rfl, ho, hb2⟩ := h.mono hbr
        go_wp2
        go_ret
        rw [← HR.out]
        exact ⟨A2, c2, rfl, ho, hb2⟩
  | false =>
    have HR := Lib.hid (show packL l = [] by simp [packL, hp])
    have HQ := Lib.hid (show ∀ t, renameL l t = [] by intro t; simp [renameL, hp])
    have hru : regsUsedI l = -1 := by simp [regsUsedI, hp]
    clear hp
    go_enter Try.func66, Try.ntmps66
    go_wp2_with fail
    refine (sRegsUsed_c A c l w hA hl).mono ?_
    rintro e w1 ⟨rfl, hb⟩
    rw [hru]
    clear hru
    have hb1 := hb.alloc hb.size (.cells #[.int .i64 0, .int .i64 0, .int .i64 0, .int .i64 0] 3)
    have hsz := hb.size
    go_wp2
    clear hmk'
    have HH : Hid ((w1.alloc (.cells #[.int .i64 0, .int .i64 0, .int .i64 0, .int .i64 0] 3)).heap[w1.heap.size]? = some (.cells (row4 [0, 0, 0, 0]) 3 (0, 0))) := heap_alloc_new w1 _
    go_loopw [6, 5] (fun pv nv wr => ∃ p : Nat, p ≤ 2 ∧ pv = .int .i64 (1 - (p : Int)) ∧ SKRel0 w w1.heap.size (4 * p) nv wr) (fun pv _ _ => (intOf pv + 1).toNat)
    case atStart => exact ⟨0, by omega, rfl, 0, [0, 0, 0, 0], rfl, Nat.le_refl _, rfl, HH, hb1, hsz⟩
    case round =>
      clear HH hb1
      obtain ⟨p, hp2, rfl, n, t, rfl, hn, HL, H4, hbr, hB⟩ := hrel
      by_cases hlt : p < 2
      · have hge : (0 : Int) ≤ 1 - (p : Int) := by omega
        obtain ⟨wo, rfl⟩ : ∃ wo : World, wo = wr := ⟨_, rfl⟩
        go_wp2
        go_loopw [7, 5] (fun rv nv wr => ∃ r : Nat, r ≤ 4 ∧ rv = .int .i64 r ∧ SKRel0 w w1.heap.size (4 * p + r) nv wr) (fun rv _ _ => 4 - (intOf rv).toNat)
        case atStart => exact ⟨0, by omega, rfl, n, t, rfl, hn, HL, H4, hbr, hB⟩
        case round =>
          clear H4 hbr HL hn
          obtain ⟨r, hr, rfl, n, t, rfl, hn, HL, H5, hb5, _⟩ := hrel
          by_cases hlt4 : r < 4
          · have hcell : wr.cell? ⟨w1.heap.size, r, none⟩ = some (.int .i64 (nm t (r : Int))) := by rw [cell_of_heap H5.out, row4_get _ hlt4]
            have hfree := free_of_heap H5.out r
            go_wp2
            all_goals go_roundw
            case rel =>
              refine ⟨r + 1, by omega, by go_num, n + 1, t.set r n, by go_num, by omega, by show _ = _; rw [List.length_set]; exact HL.out, ?_, hb5.setCell hB _, hB⟩
              show _ = _
              rw [heap_set_same H5.out, row4_set HL.out hlt4]
            case measure => simp [intOf]; omega
            case rel => exact ⟨r + 1, by omega, by go_num, n, t, rfl, by omega, HL, H5, hb5, hB⟩
            case measure => simp [intOf]; omega
          · obtain rfl : r = 4 := by omega
            go_wp2
            go_roundw
            case rel => exact ⟨p + 1, by omega, by (congr 1; omega), n, t, rfl, hn, HL, H5, hb5, hB⟩
            case measure => simp [intOf]; omega
      · obtain rfl : p = 2 := by omega
        go_wp2_with fail
        refine (ren_row4 A c l t HL.out H4.out ((hA.below hbr).more hbr.size) hl).mono ?_
        intro e w2 h
        obtain ⟨A2, c2, rfl, ho, hb2⟩ := h.mono hbr
        go_wp2
        go_ret
        have ho' := ho
        have hq := HQ.out t
        rw [HR.out]
        rw [hq] at ho
        exact ⟨A2, c2, by rw [hq]; rfl, ho, hb2⟩
end Go.Proofs.Ytcpjhlkcfohkiaa
