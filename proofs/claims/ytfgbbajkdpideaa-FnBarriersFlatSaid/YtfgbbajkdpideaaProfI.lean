/- The program's maskMany, profile, ProfileOf, Occupancy. -/
import Derived.Test.YtfgbbajkdpideaaProf0
import Derived.Test.YtfgbbajkdpideaaILock7
import Derived.StillTailTactics
namespace Go.Proofs.Ytfgbbajkdpideaa
open Go.RowKit
set_option linter.unusedVariables false
set_option linter.unusedSimpArgs false

set_option maxRecDepth 100000 in
theorem onesCount64_c (m : Nat) (w : World) (hm : m < 256) :
    Calls Try.prog 69 #[.int .u64 m] w fun e w' => e = .returned (.int .i64 (lanesOf m).length) ∧ w = w' := by
  go_enter Try.func69, Try.ntmps69
  go_wp2
  go_ret
  refine ⟨reti ?_, rfl⟩
  clear w
  revert hm
  revert m
  decide +kernel

theorem onesCount_c (m : Nat) (w : World) (hm : m < 256) :
    Calls Try.prog 61 #[.int .u64 m] w fun e w' => e = .returned (.int .i64 (lanesOf m).length) ∧ w = w' := by
  go_enter Try.func61, Try.ntmps61
  go_wp2_with fail
  refine (onesCount64_c m w hm).mono ?_
  rintro e w1 ⟨rfl, rfl⟩
  go_wp2
  go_ret
  exact ⟨rfl, rfl⟩

theorem maskMany_c (m : Nat) (w : World) (hm : m < 256) :
    Calls Try.prog 49 #[.int .i64 m] w fun e w' => e = .returned (.int .i64 (lanesOf m).length) ∧ w = w' := by
  have hw : IntKind.u64.wrap (m : Int) = (m : Int) := by simp [IntKind.wrap, IntKind.bits, IntKind.signed]; omega
  go_enter Try.func49, Try.ntmps49
  go_wp2_with fail
  refine (onesCount_c m w hm).mono ?_
  rintro e w1 ⟨rfl, rfl⟩
  go_wp2
  go_ret
  exact ⟨rfl, rfl⟩

def IPfRel (w : World) (l : List Cd) (bs : List (Nat × Nat)) (kv : Value) (wr : World) : Prop :=
  ∃ k : Nat, k ≤ bs.length ∧ kv = .int .i64 k ∧ Hid (wr.heap[w.heap.size + 1]? = some (.cells (profCells l (bs.take k)) 31 (0, 0))) ∧ Hid (wr.heap[w.heap.size]? = some (.cells zero5 31 (0, 0))) ∧ Below w.heap.size w wr

set_option maxRecDepth 100000 in
set_option maxHeartbeats 4000000 in
theorem profile_c {w : World} {z : IW} {T U : Option Addr} {tc uc : Nat} {s : LS} (h : IR w z T tc U uc s) (hin : ∀ q ∈ s.beats, q.1 < z.l.length ∧ q.2 < 256) (hlen : s.beats.length ≤ 2560) (hl : z.l.length ≤ 1000000000) (hB : z.B ≤ w.heap.size) :
    Calls Try.prog 28 #[.pointer (some ⟨z.g, 0, none⟩)] w fun e w' => e = .returned (.agg (profCells z.l s.beats)) ∧ Below w.heap.size w w' := by
  obtain ⟨c0, -, -, c3, -, -, -⟩ := h.cells
  obtain ⟨d0, -⟩ := h.mach.cells
  have hgl := h.glt
  have hml := h.mach.glt
  have hlst := Lib.hid h.mach.lst
  have htr := Lib.hid h.trc
  have HIN := Lib.hid hin
  generalize s.beats = bs at *
  clear h hin
  have hb2 : Below w.heap.size w ((w.alloc (.cells zero5 31)).alloc (.cells zero5 31)) := (by repeat (first | exact Below.refl _ _ | assumption | refine Below.alloc ?_ (by simp <;> omega) _ | refine Below.setCell ?_ (by simp <;> omega) _ | refine Below.drew ?_))
  have hr2 := Lib.hid ((Ext.alloc (w.alloc (.cells zero5 31)) (.cells zero5 31)).heap_ (heap_alloc_new w (.cells zero5 31)))
  have hp2 := heap_alloc_new (w.alloc (.cells zero5 31)) (.cells zero5 31)
  have hs2 : (w.alloc (.cells zero5 31)).heap.size = w.heap.size + 1 := by simp
  rw [hs2] at hp2
  have hp2 := Lib.hid hp2
  go_enter Try.func28, Try.ntmps28
  go_wp2
  go_loopw [11] (fun kv wr => IPfRel w z.l bs kv wr) (fun kv _ => bs.length - (intOf kv).toNat)
  case atStart => exact ⟨0, Nat.zero_le _, rfl, hp2, hr2, hb2⟩
  case round =>
    clear hb2 hr2 hp2 hs2
    obtain ⟨k, hk, rfl, HP, HR, hb⟩ := hrel
    by_cases hlt : k < bs.length
    · have hq : bs[k]? = some (bs[k]) := List.getElem?_eq_getElem hlt
      generalize bs[k] = q at hq
      obtain ⟨p, mm⟩ := q
      have hmem := List.mem_of_getElem? hq
      obtain ⟨hpl, hmm⟩ := HIN.out _ hmem
      have hlp : (p : Int) < (z.l.length : Int) := by omega
      obtain ⟨lb, lo, y, hzA, hbB, hy, l0, -, -, -⟩ := hlst.out.at_ hpl
      rw [hzA] at d0
      have hyd : cdAt z.l p = y := by unfold cdAt; rw [hy]
      obtain ⟨g, rfl, hg1, hg2, -⟩ := OR.at_ htr.out (by omega)
      have hcells := beatsV_get bs k _ hq
      have e0 := (hb.cell (by exact hg2)).trans ((OR.at0 htr.out).1 _ _ hcells.1)
      have e1 := (hb.cell (by exact hg2)).trans ((OR.at0 htr.out).1 _ _ hcells.2)
      have hp0 := HP.out
      rw [prof_now hk] at hp0
      have HS := prof_step (l := z.l) hq
      rw [hyd] at HS
      have ba := actOf_le (bs.take k)
      have b8 := opsOf_le z.l 8 (bs.take k)
      have b9 := opsOf_le z.l 9 (bs.take k)
      have b10 := opsOf_le z.l 10 (bs.take k)
      have bl : (bs.take k).length ≤ 2560 := by simp; omega
      have bc := lanesOf_len mm
      have hMany := Lib.hid (fun W => maskMany_c mm W hmm)
      generalize actOf (bs.take k) = av at *
      generalize opsOf z.l 8 (bs.take k) = o8 at *
      generalize opsOf z.l 9 (bs.take k) = o9 at *
      generalize opsOf z.l 10 (bs.take k) = o10 at *
      generalize (lanesOf mm).length = cc at *
      have HS := Lib.hid HS
      have hsz := hb.size
      have hbp := lt_of_block hp0
      have p0 := cell_of_heap hp0 0
      have f0 := free_of_heap hp0 0
      have p1 := cell_of_heap hp0 1
      have f1 := free_of_heap hp0 1
      have w0 := (hb.cell (by exact hgl)).trans c0
      have w1 := (hb.cell (by exact hml)).trans d0
      have w2 := (hb.cell (by show lb < _; omega)).trans l0
      have q1 : IntKind.i64.wrap ((k : Int) + 1) = (k : Int) + 1 := IntWalk.i64_in _ (by omega)
      have q2 : IntKind.i64.wrap ((av : Int) + cc) = (av : Int) + cc := IntWalk.i64_in _ (by omega)
      have q3 : IntKind.i64.wrap ((o8 : Int) + 1) = (o8 : Int) + 1 := IntWalk.i64_in _ (by omega)
      have q4 : IntKind.i64.wrap ((o9 : Int) + 1) = (o9 : Int) + 1 := IntWalk.i64_in _ (by omega)
      have q5 : IntKind.i64.wrap ((o10 : Int) + 1) = (o10 : Int) + 1 := IntWalk.i64_in _ (by omega)
      have hkI : (k : Int) < (bs.length : Int) := by omega
      have hops : ((y.op == 8) = true ∧ (y.op == 9) = false ∧ (y.op == 10) = false) ∨ ((y.op == 8) = false ∧ (y.op == 9) = true ∧ (y.op == 10) = false) ∨ ((y.op == 8) = false ∧ (y.op == 9) = false ∧ (y.op == 10) = true) ∨ ((y.op == 8) = false ∧ (y.op == 9) = false ∧ (y.op == 10) = false) := by
        simp only [beq_iff_eq, beq_eq_false_iff_ne]; omega
      have HOPS := Lib.hid hops
      clear hcells hq hmem hyd hops l0 hy c0 c3 d0
      have hX1 := Ext.alloc (wr.setCell ⟨w.heap.size + 1, 0, none⟩ (.int .i64 ((k : Int) + 1))) (.cells #[.int .i64 p, .int .i64 mm] 56)
      have hb1 : Below w.heap.size w ((wr.setCell ⟨w.heap.size + 1, 0, none⟩ (.int .i64 ((k : Int) + 1))).alloc (.cells #[.int .i64 p, .int .i64 mm] 56)) := (hb.setCell (p := ⟨w.heap.size + 1, 0, none⟩) (by simp) _).alloc (by simp; omega) _
      have hp1 := hX1.heap_ (heap_set_same hp0 0 (.int .i64 ((k : Int) + 1)))
      have hr1 := hX1.heap_ ((heap_set_other (w := wr) (g := w.heap.size + 1) (b := w.heap.size) (by omega) 0 (.int .i64 ((k : Int) + 1))).trans HR.out)
      have hbt := heap_alloc_new (wr.setCell ⟨w.heap.size + 1, 0, none⟩ (.int .i64 ((k : Int) + 1))) (.cells #[.int .i64 p, .int .i64 mm] 56)
      rw [size_set] at hbt
      have v0 := (hb1.cell (by exact hgl)).trans ((hb.cell (by exact hgl)).symm.trans w0)
      have v1 := (hb1.cell (by exact hml)).trans ((hb.cell (by exact hml)).symm.trans w1)
      have hlb : lb < w.heap.size := by omega
      have v2 := (hb1.cell (by exact hlb)).trans ((hb.cell (by exact hlb)).symm.trans w2)
      go_wp2_with fail
      generalize (wr.setCell ⟨w.heap.size + 1, 0, none⟩ (.int .i64 ((k : Int) + 1))).alloc (.cells #[.int .i64 p, .int .i64 mm] 56) = W1 at *
      clear p0 f0 p1 f1 e0 e1 hX1 w0 w1 w2 HP HR hp0
      have x1 := cell_of_heap hp1 1
      have y1 := free_of_heap hp1 1
      have z0 := cell_of_heap hbt 0
      have z1 := cell_of_heap hbt 1
      have hs1 := hb1.size
      have hlt1 := lt_of_block hbt
      go_still_tail 5, (by kernel_rfl)
      still_call (calls_flip (hMany.out _))
      repeat still_step
      try refine wpStill_nil ?_
      go_upto_region 7 with fail
      have hne1 : wr.heap.size ≠ w.heap.size + 1 := by omega
      have hp5 := heap_set_same hp1 1 (.int .i64 ((av : Int) + cc))
      have hr5 := (heap_set_other (w := W1) (g := w.heap.size + 1) (b := w.heap.size) (by omega) 1 (.int .i64 ((av : Int) + cc))).trans hr1
      have hbt5 := (heap_set_other (w := W1) (g := w.heap.size + 1) (b := wr.heap.size) hne1 1 (.int .i64 ((av : Int) + cc))).trans hbt
      have hb5 := hb1.setCell (p := ⟨w.heap.size + 1, 1, none⟩) (by simp) (.int .i64 ((av : Int) + cc))
      have v0' := (hb5.cell (by exact hgl)).trans ((hb1.cell (by exact hgl)).symm.trans v0)
      have v1' := (hb5.cell (by exact hml)).trans ((hb1.cell (by exact hml)).symm.trans v1)
      have v2' := (hb5.cell (by exact hlb)).trans ((hb1.cell (by exact hlb)).symm.trans v2)
      generalize W1.setCell ⟨w.heap.size + 1, 1, none⟩ (.int .i64 ((av : Int) + cc)) = W5 at *
      clear hp1 hr1 hbt hb1 v0 v1 v2 x1 y1 z0 z1 hMany hne1
      have z0 := cell_of_heap hbt5 0
      have p2 := cell_of_heap hp5 2
      have p3 := cell_of_heap hp5 3
      have p4 := cell_of_heap hp5 4
      have f2 := free_of_heap hp5 2
      have f3 := free_of_heap hp5 3
      have f4 := free_of_heap hp5 4
      have HHP := Lib.hid hp5
      have HHR := Lib.hid hr5
      have HHB := Lib.hid hb5
      clear hp5 hr5 hb5 hbt5
      go_quiet (fail)
      obtain ⟨e8, e9, e10⟩ | ⟨e8, e9, e10⟩ | ⟨e8, e9, e10⟩ | ⟨e8, e9, e10⟩ := HOPS.out
      · have HS2 := HS.out
        simp only [e8, e9, e10, if_true, if_false, Int.add_zero, Bool.false_eq_true] at HS2
        have HS2 := Lib.hid HS2
        clear HS HOPS
        go_wp2
        go_roundw
        case rel =>
          refine ⟨k + 1, by omega, by go_num, Lib.hid ?_, Lib.hid ((heap_set_other (by omega) _ _).trans HHR.out), (below_drewN HHB.out _).setCell (Nat.le_succ _) _⟩
          rw [HS2.out]
          exact heap_set_same HHP.out 2 _
        case measure => simp [intOf]; omega
      · have HS2 := HS.out
        simp only [e8, e9, e10, if_true, if_false, Int.add_zero, Bool.false_eq_true] at HS2
        have HS2 := Lib.hid HS2
        clear HS HOPS
        go_wp2
        go_roundw
        case rel =>
          refine ⟨k + 1, by omega, by go_num, Lib.hid ?_, Lib.hid ((heap_set_other (by omega) _ _).trans HHR.out), (below_drewN HHB.out _).setCell (Nat.le_succ _) _⟩
          rw [HS2.out]
          exact heap_set_same HHP.out 3 _
        case measure => simp [intOf]; omega
      · have HS2 := HS.out
        simp only [e8, e9, e10, if_true, if_false, Int.add_zero, Bool.false_eq_true] at HS2
        have HS2 := Lib.hid HS2
        clear HS HOPS
        go_wp2
        go_roundw
        case rel =>
          refine ⟨k + 1, by omega, by go_num, Lib.hid ?_, Lib.hid ((heap_set_other (by omega) _ _).trans HHR.out), (below_drewN HHB.out _).setCell (Nat.le_succ _) _⟩
          rw [HS2.out]
          exact heap_set_same HHP.out 4 _
        case measure => simp [intOf]; omega
      · have HS2 := HS.out
        simp only [e8, e9, e10, if_true, if_false, Int.add_zero, Bool.false_eq_true] at HS2
        have HS2 := Lib.hid HS2
        clear HS HOPS
        go_wp2
        go_roundw
        case rel =>
          refine ⟨k + 1, by omega, by go_num, Lib.hid ?_, HHR, below_drewN HHB.out _⟩
          rw [HS2.out]
          exact HHP.out
        case measure => simp [intOf]; omega
    · obtain rfl : k = bs.length := by omega
      rw [List.take_length] at HP
      have hp0 := HP.out
      have hr0 := HR.out
      unfold profCells at hp0
      go_upto_region 15 with fail
      refine wp_region_lit (fin_row _ _ _ _ rfl rfl rfl rfl _ _ _ _ _ _ hp0 hr0 rfl rfl rfl _ (Try.underlying31) rfl (by kernel_rfl) rfl (by simp [Value.oneCell']) ?_)
      have hz := heap_setRow_same (cs := profCells z.l bs) hr0
      have hbz := below_setRow hb (b := w.heap.size) (cs := profCells z.l bs) (Nat.le_refl _) (Nat.le_refl _)
      unfold profCells at hz hbz
      go_wp2_with fail
      refine ret_cell Try.results28 _ rfl _ _ _ hz _ (Try.underlying31) rfl (by kernel_rfl) rfl ?_
      exact ⟨rfl, hbz⟩
end Go.Proofs.Ytfgbbajkdpideaa
