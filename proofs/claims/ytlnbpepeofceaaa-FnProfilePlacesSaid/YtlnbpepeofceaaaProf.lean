/- Profiles: plain, and the reference's MaskValid, MaskLanes, MaskMany, ProfileOf, Occupancy. -/
import Derived.Test.YtlnbpepeofceaaaLock6
import Derived.Test.YtlnbpepeofceaaaProf0
import Derived.Test.YtlnbpepeofceaaaBits
import Derived.Test.YtlnbpepeofceaaaLock1
import Derived.Test.YtlnbpepeofceaaaMem2
import Derived.Handy
import Derived.Deep.RegionLaw
namespace Go.Proofs.Ytlnbpepeofceaaa
open Go.RowKit
set_option linter.unusedVariables false
set_option linter.unusedSimpArgs false

theorem lanesTo_hi {m n : Nat} (hm : m < 2 ^ n) : ∀ k, lanesTo m (n + k) = lanesTo m n
  | 0 => rfl
  | k + 1 => by
    rw [← Nat.add_assoc, lanesTo_succ, testBit_high hm (Nat.le_add_right n k), lanesTo_hi hm k]
    rfl
theorem lanesTo_all {m n : Nat} (hm : m < 2 ^ n) (hn : n ≤ 8) : lanesTo m n = lanesOf m := by
  rw [lanesOf_to, ← lanesTo_hi hm (8 - n)]
  congr 1
  omega

theorem sMaskValid_c (m n : Nat) (w : World) (h1 : 1 ≤ n) (h8 : n ≤ 8) (hm : m < 2 ^ n) :
    Calls Try.prog 58 #[.int .i64 m, .int .i64 n] w fun e w' => e = .returned (.bool true) ∧ w = w' := by
  have hin : inR n 1 8 = true := inR_iff.2 ⟨by omega, by omega⟩
  have hmk : inR m 0 (maskAllI n) = true := by
    have h : n = 1 ∨ n = 2 ∨ n = 3 ∨ n = 4 ∨ n = 5 ∨ n = 6 ∨ n = 7 ∨ n = 8 := by omega
    rcases h with rfl | rfl | rfl | rfl | rfl | rfl | rfl | rfl <;> (simp at hm; rw [inR_iff]; refine ⟨by omega, ?_⟩; simp [maskAllI, inR]; omega)
  go_enter Try.func58, Try.ntmps58
  go_wp2_with fail
  refine (l1In_c n 1 8 w).mono ?_
  rintro e w1 ⟨rfl, rfl⟩
  rw [hin]
  go_wp2_with fail
  refine (sMaskAll_c n w).mono ?_
  rintro e w1 ⟨rfl, rfl⟩
  go_wp2_with fail
  refine (l1In_c m 0 (maskAllI n) w).mono ?_
  rintro e w1 ⟨rfl, rfl⟩
  rw [hmk]
  go_wp2
  go_ret
  exact ⟨rfl, rfl⟩

def lanesToI (m k : Nat) : List Int := (lanesTo m k).map fun (j : Nat) => (j : Int)
def MLRel (w : World) (m n : Nat) (ov kv : Value) (wr : World) : Prop :=
  ∃ (k : Nat) (A : Option Addr) (c : Nat), k ≤ n ∧ kv = .int .i64 k ∧ ov = .slice A (lanesTo m k).length c ∧ OI wr w.heap.size A (lanesTo m k).length c (lanesToI m k) ∧ Below w.heap.size w wr

set_option maxHeartbeats 2000000 in
theorem sMaskLanes_c (m n : Nat) (w : World) (h1 : 1 ≤ n) (h8 : n ≤ 8) (hm : m < 2 ^ n) :
    Calls Try.prog 59 #[.int .i64 m, .int .i64 n] w (RetI w (lanesToI m n)) := by
  have hlen := lanesTo_len m
  have HM := Lib.hid hm
  clear hm
  go_enter Try.func59, Try.ntmps59
  go_wp2
  go_loopw [5, 6] (fun ov kv wr => MLRel w m n ov kv wr) (fun _ kv _ => n - (intOf kv).toNat)
  case atStart => exact ⟨0, _, 0, Nat.zero_le _, rfl, rfl, OI.empty_ w _ (Nat.le_refl _), (by repeat (first | exact Below.refl _ _ | assumption | refine Below.alloc ?_ (by simp <;> omega) _ | refine Below.setCell ?_ (by simp <;> omega) _ | refine Below.drew ?_))⟩
  case round =>
    obtain ⟨k, A, c, hk, rfl, rfl, ho, hb⟩ := hrel
    have hlk := hlen k
    have hs := hb.size
    by_cases hlt : k < n
    · go_wp2_with fail
      refine (sMaskValid_c m n wr h1 h8 HM.out).mono ?_
      rintro e w1 ⟨rfl, rfl⟩
      have hbt := bit_tm m k
      cases ht : m.testBit k with
      | false =>
        rw [ht] at hbt
        have HL := Lib.hid (show lanesTo m (k + 1) = lanesTo m k by rw [lanesTo_succ, ht]; rfl)
        clear ht
        go_wp2
        go_roundw
        case rel => exact ⟨k + 1, A, c, by omega, by go_num, by rw [HL.out], by unfold lanesToI; rw [HL.out]; exact ho, hb⟩
        case measure => simp [intOf]; omega
      | true =>
        rw [ht] at hbt
        have HL := Lib.hid (show lanesTo m (k + 1) = lanesTo m k ++ [k] by rw [lanesTo_succ, ht]; rfl)
        clear ht
        have HO := Lib.hid (ho.alloc (.cells #[.int .i64 k] 3))
        have hlen2 : (lanesTo m (k + 1)).length = (lanesTo m k).length + 1 := by rw [HL.out]; simp
        go_wp2_with (at_builtin; refine app_int rfl _ _ rfl w.heap.size A _ c _ HO.out rfl k wr.heap.size 1 rfl ?hc ?hn ?hb ?_)
        case hc => simp [go_sem]
        case hn => omega
        case hb => simp; omega
        intro A' c' w2 ho2 hg2
        have hb2 := below_app hb hs ho (Nat.le_refl _) hg2
        go_wp2
        go_roundw
        case rel => exact ⟨k + 1, A', c', by omega, by go_num, by rw [hlen2], by rw [hlen2]; unfold lanesToI at *; rw [HL.out, List.map_append]; exact ho2, hb2⟩
        case measure => simp [intOf]; omega
    · obtain rfl : k = n := by omega
      go_wp2
      go_ret
      have := RetI.of ho hb
      exact this

theorem sMaskMany_c (m n : Nat) (w : World) (h1 : 1 ≤ n) (h8 : n ≤ 8) (hm : m < 2 ^ n) :
    Calls Try.prog 42 #[.int .i64 m, .int .i64 n] w fun e w' => e = .returned (.int .i64 (lanesOf m).length) ∧ Below w.heap.size w w' := by
  have hl : (lanesToI m n).length = (lanesOf m).length := by unfold lanesToI; rw [lanesTo_all hm h8]; simp
  go_enter Try.func42, Try.ntmps42
  go_wp2_with fail
  refine (sMaskValid_c m n w h1 h8 hm).mono ?_
  rintro e w1 ⟨rfl, rfl⟩
  go_wp2_with fail
  refine (sMaskLanes_c m n w h1 h8 hm).mono ?_
  rintro e w1 ⟨A, c, rfl, ho, hb⟩
  rw [hl]
  go_wp2
  go_ret
  exact ⟨rfl, hb⟩
def SPRel (w : World) (l : List Cd) (bs : List (Nat × Nat)) (rb pb : Nat) (T : Option Addr) (tc : Nat) (kv : Value) (wr : World) : Prop :=
  ∃ k : Nat, k ≤ bs.length ∧ kv = .int .i64 k ∧ Hid (wr.heap[pb]? = some (.cells (profCells l (bs.take k)) 37 (0, 0))) ∧ Hid (wr.heap[rb]? = some (.cells zero5 37 (0, 0))) ∧
    OR wr w.heap.size 54 2 T bs.length tc (beatCells bs) ∧ Below w.heap.size w wr
set_option maxRecDepth 100000 in
set_option maxHeartbeats 4000000 in
theorem sProfileOf_c (A Am : Option Addr) (c cm : Nat) (l : List Cd) (n : Int) (m : List Int) (w : World) (hA : RdC w w.heap.size A l) (hM : RdI w w.heap.size Am m) (hl : l.length ≤ 1000000000) (hml : m.length ≤ 1000000000) :
    Calls Try.prog 23 #[.slice A l.length c, .int .i64 n, .slice Am m.length cm] w fun e w' => e = .returned (profL l n m) ∧ Below w.heap.size w w' := by
  have hin := Lib.hid (trace_in (l := l) (n := n) (m := m))
  have hlen := traceOf_len l n m
  have hnn : lockOk l n m = true → ∃ k : Nat, n = (k : Int) ∧ 1 ≤ k ∧ k ≤ 8 := fun hok => by
    simp only [lockOk, Bool.and_eq_true] at hok
    have := inR_iff.1 hok.2.1
    exact ⟨n.toNat, by omega, by omega, by omega⟩
  have hne0 : traceOf l n m ≠ [] → lockOk l n m = true := fun h => by
    cases hok : lockOk l n m with
    | true => rfl
    | false => exact absurd (by simp [traceOf, hok]) h
  go_enter Try.func23, Try.ntmps23
  go_wp2_with fail
  have hb2 : Below w.heap.size w ((w.alloc (.cells zero5 37)).alloc (.cells zero5 37)) := (by repeat (first | exact Below.refl _ _ | assumption | refine Below.alloc ?_ (by simp <;> omega) _ | refine Below.setCell ?_ (by simp <;> omega) _ | refine Below.drew ?_))
  have hr2 := (Ext.alloc (w.alloc (.cells zero5 37)) (.cells zero5 37)).heap_ (heap_alloc_new w (.cells zero5 37))
  have hp2 := heap_alloc_new (w.alloc (.cells zero5 37)) (.cells zero5 37)
  have hs2 : (w.alloc (.cells zero5 37)).heap.size = w.heap.size + 1 := by simp
  rw [hs2] at hp2
  refine (sLockTrace_c A Am c cm l n m _ ((hA.below hb2).more hb2.size) ((hM.below hb2).more hb2.size) hl hml).mono ?_
  rintro e w3 ⟨T, tc, rfl, ht3, hb3⟩
  have hr3 := Lib.hid ((Ext.of_below hb3).heap_ hr2)
  have hp3 := Lib.hid ((Ext.of_below hb3).heap_ hp2)
  replace ht3 := ht3.mono hb2.size
  replace hb3 := below_trans hb2 (Nat.le_refl _) hb3
  clear hb2 hr2 hp2 hs2
  have HPL := Lib.hid (show profL l n m = .agg (profCells l (traceOf l n m)) from rfl)
  generalize traceOf l n m = bs at *
  go_wp2
  go_loopw [9] (fun kv wr => SPRel w l bs w.heap.size (w.heap.size + 1) T tc kv wr) (fun kv _ => bs.length - (intOf kv).toNat)
  case atStart => exact ⟨0, Nat.zero_le _, rfl, hp3, hr3, ht3, hb3⟩
  case round =>
    clear ht3 hb3 hp3 hr3
    obtain ⟨k, hk, rfl, HP, HR, ht, hb⟩ := hrel
    by_cases hlt : k < bs.length
    · have hq : bs[k]? = some (bs[k]) := List.getElem?_eq_getElem hlt
      generalize bs[k] = q at hq
      obtain ⟨p, mm⟩ := q
      have hmem := List.mem_of_getElem? hq
      obtain ⟨hpl, -, hmm⟩ := hin.out _ hmem
      obtain ⟨nn, rfl, h1, h8⟩ := hnn (hne0 (List.ne_nil_of_mem hmem))
      have HMM := Lib.hid (show mm < 2 ^ nn by simpa using hmm)
      have hlp : (p : Int) < (l.length : Int) := by omega
      have hAr := hA.below hb
      obtain ⟨lb, lo, y, rfl, hbB, hy, l0, -, -, -⟩ := hAr.at_ hpl
      have hyd : cdAt l p = y := by unfold cdAt; rw [hy]
      obtain ⟨g, rfl, hg1, hg2, -⟩ := OR.at_ ht (by omega)
      have hcells := beatCells_get bs k _ hq
      have c0 := (OR.at0 ht).1 _ _ hcells.1
      have c1 := (OR.at0 ht).1 _ _ hcells.2
      have hp0 := HP.out
      rw [prof_now hk] at hp0
      have HS := prof_step (l := l) hq
      rw [hyd] at HS
      have ba := actOf_le (bs.take k)
      have b8 := opsOf_le l 8 (bs.take k)
      have b9 := opsOf_le l 9 (bs.take k)
      have b10 := opsOf_le l 10 (bs.take k)
      have bl : (bs.take k).length ≤ 2560 := by simp; omega
      have bc := lanesOf_len mm
      have hMany := Lib.hid (fun W => sMaskMany_c mm nn W h1 h8 HMM.out)
      generalize actOf (bs.take k) = av at *
      generalize opsOf l 8 (bs.take k) = o8 at *
      generalize opsOf l 9 (bs.take k) = o9 at *
      generalize opsOf l 10 (bs.take k) = o10 at *
      generalize (lanesOf mm).length = cc at *
      have HS := Lib.hid HS
      have hne : Value.ownBlock (.slice (some ⟨g, 0, none⟩) bs.length tc) ≠ some (w.heap.size + 1) := own_ne ht hp0 (by decide)
      have hsz := hb.size
      have hbp := lt_of_block hp0
      have p0 := cell_of_heap hp0 0
      have f0 := free_of_heap hp0 0
      have hp1 := heap_set_same hp0 0 (.int .i64 ((k : Int) + 1))
      have hr1 := (heap_set_other (w := wr) (g := w.heap.size + 1) (b := w.heap.size) (by omega) 0 (.int .i64 ((k : Int) + 1))).trans HR.out
      have ht1 := OR.set_other ht (p := ⟨w.heap.size + 1, 0, none⟩) hne (.int .i64 ((k : Int) + 1))
      have hb1 := hb.setCell (p := ⟨w.heap.size + 1, 0, none⟩) (by simp) (.int .i64 ((k : Int) + 1))
      have q1 : IntKind.i64.wrap ((k : Int) + 1) = (k : Int) + 1 := IntWalk.i64_in _ (by omega)
      have q2 : IntKind.i64.wrap ((av : Int) + cc) = (av : Int) + cc := IntWalk.i64_in _ (by omega)
      have q3 : IntKind.i64.wrap ((o8 : Int) + 1) = (o8 : Int) + 1 := IntWalk.i64_in _ (by omega)
      have q4 : IntKind.i64.wrap ((o9 : Int) + 1) = (o9 : Int) + 1 := IntWalk.i64_in _ (by omega)
      have q5 : IntKind.i64.wrap ((o10 : Int) + 1) = (o10 : Int) + 1 := IntWalk.i64_in _ (by omega)
      have hkI : (k : Int) < (bs.length : Int) := by omega
      have hL0 := (hb.cell hbB).symm.trans l0
      have hlb0 : lb < w.heap.size := hbB
      have p1 := cell_of_heap hp1 1
      have f1 := free_of_heap hp1 1
      have d1 := (OR.at0 ht1).1 _ _ hcells.2
      have HCE := Lib.hid hcells.1
      have hops : ((y.op == 8) = true ∧ (y.op == 9) = false ∧ (y.op == 10) = false) ∨ ((y.op == 8) = false ∧ (y.op == 9) = true ∧ (y.op == 10) = false) ∨ ((y.op == 8) = false ∧ (y.op == 9) = false ∧ (y.op == 10) = true) ∨ ((y.op == 8) = false ∧ (y.op == 9) = false ∧ (y.op == 10) = false) := by
        simp only [beq_iff_eq, beq_eq_false_iff_ne]; omega
      have HOPS := Lib.hid hops
      clear hcells hq hmem hyd hA hAr hin hne0 hnn hops l0 hy
      go_wp2_with fail
      generalize wr.setCell ⟨w.heap.size + 1, 0, none⟩ (.int .i64 ((k : Int) + 1)) = W1 at *
      clear c0 c1 p0 f0 HP HR ht hb hp0
      have hsz1 := hb1.size
      go_region_law (go_simp; go_at_call 42; refine (hMany.out _).mono ?_; rintro e w4 ⟨rfl, hb4⟩; have hp4 := (Ext.of_below hb4).heap_ hp1; have p4 := cell_of_heap hp4 1; have f4 := free_of_heap hp4 1)
      all_goals
        have hs4 : W1.heap.size ≤ w4.heap.size := hb4.size
        have hp5 := heap_set_same hp4 1 (.int .i64 ((av : Int) + cc))
        have hr5 := (heap_set_other (w := w4) (g := w.heap.size + 1) (b := w.heap.size) (by omega) 1 (.int .i64 ((av : Int) + cc))).trans ((Ext.of_below hb4).heap_ hr1)
        have ht5 := OR.set_other (OR.below (OR.drew ht1) hb4 (Nat.le_refl _)) (p := ⟨w.heap.size + 1, 1, none⟩) hne (.int .i64 ((av : Int) + cc))
        have hb5 := (below_trans hb1.drew (by omega) hb4).setCell (p := ⟨w.heap.size + 1, 1, none⟩) (by simp) (.int .i64 ((av : Int) + cc))
        clear hp4 p4 f4 hr1 ht1 hp1 p1 f1 d1 hMany hs4
        generalize w4.setCell ⟨w.heap.size + 1, 1, none⟩ (.int .i64 ((av : Int) + cc)) = W5 at *
        clear hb4 hb1 hsz1
        have c0 := (OR.at0 ht5).1 _ _ HCE.out
        have l0 := (hb5.cell hlb0).trans hL0
        have p2 := cell_of_heap hp5 2
        have p3 := cell_of_heap hp5 3
        have p4 := cell_of_heap hp5 4
        have f2 := free_of_heap hp5 2
        have f3 := free_of_heap hp5 3
        have f4 := free_of_heap hp5 4
        have HHP := Lib.hid hp5
        have HHR := Lib.hid hr5
        have HHT := Lib.hid ht5
        have hsz5 := hb5.size
        have HHB := Lib.hid hb5
        clear hp5 hr5 ht5 hb5 hL0
        obtain ⟨e8, e9, e10⟩ | ⟨e8, e9, e10⟩ | ⟨e8, e9, e10⟩ | ⟨e8, e9, e10⟩ := HOPS.out
        · have HS2 := HS.out
          simp only [e8, e9, e10, if_true, if_false, Int.add_zero, Bool.false_eq_true] at HS2
          have HS2 := Lib.hid HS2
          clear HS HOPS
          go_wp2
          go_roundw
          case rel =>
            refine ⟨k + 1, by omega, by go_num, Lib.hid ?_, Lib.hid ((heap_set_other (by omega) _ _).trans HHR.out), OR.set_other HHT.out hne _, HHB.out.setCell (by simp) _⟩
            rw [HS2.out]
            exact heap_set_same HHP.out 2 _
          case measure => simp [intOf]; omega
        · have HS2 := HS.out
          simp only [e8, e9, e10, if_true, if_false, Int.add_zero, Bool.false_eq_true] at HS2
          have HS2 := Lib.hid HS2
          clear HS HOPS
          go_wp2
          go_roundw
          case rel =>
            refine ⟨k + 1, by omega, by go_num, Lib.hid ?_, Lib.hid ((heap_set_other (by omega) _ _).trans HHR.out), OR.set_other HHT.out hne _, HHB.out.setCell (by simp) _⟩
            rw [HS2.out]
            exact heap_set_same HHP.out 3 _
          case measure => simp [intOf]; omega
        · have HS2 := HS.out
          simp only [e8, e9, e10, if_true, if_false, Int.add_zero, Bool.false_eq_true] at HS2
          have HS2 := Lib.hid HS2
          clear HS HOPS
          go_wp2
          go_roundw
          case rel =>
            refine ⟨k + 1, by omega, by go_num, Lib.hid ?_, Lib.hid ((heap_set_other (by omega) _ _).trans HHR.out), OR.set_other HHT.out hne _, HHB.out.setCell (by simp) _⟩
            rw [HS2.out]
            exact heap_set_same HHP.out 4 _
          case measure => simp [intOf]; omega
        · have HS2 := HS.out
          simp only [e8, e9, e10, if_true, if_false, Int.add_zero, Bool.false_eq_true] at HS2
          have HS2 := Lib.hid HS2
          clear HS HOPS
          go_wp2
          go_roundw
          case rel =>
            refine ⟨k + 1, by omega, by go_num, Lib.hid ?_, HHR, HHT.out, HHB.out⟩
            rw [HS2.out]
            exact HHP.out
          case measure => simp [intOf]; omega
    · obtain rfl : k = bs.length := by omega
      rw [List.take_length] at HP
      have hp0 := HP.out
      have hr0 := HR.out
      unfold profCells at hp0
      go_upto_region 15 with fail
      refine wp_region_lit (fin_row _ _ _ _ rfl rfl rfl rfl _ _ _ _ _ _ hp0 hr0 rfl rfl rfl _ (Try.underlying37) rfl (by kernel_rfl) rfl (by simp [Value.oneCell']) ?_)
      have hz := heap_setRow_same (cs := profCells l bs) hr0
      have hbz := below_setRow hb (b := w.heap.size) (cs := profCells l bs) (Nat.le_refl _) (Nat.le_refl _)
      unfold profCells at hz hbz
      go_wp2_with fail
      refine ret_cell Try.results23 _ rfl _ _ _ hz _ (Try.underlying37) rfl (by kernel_rfl) rfl ?_
      exact ⟨by rw [HPL.out]; rfl, hbz⟩
end Go.Proofs.Ytlnbpepeofceaaa
