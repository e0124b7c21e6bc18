/- FnProfilePlaces: the walk of the law. -/
import Derived.Test.YtlnbpepeofceaaaFnProf1
import Derived.Test.YtlnbpepeofceaaaILock8
import Derived.Test.YtlnbpepeofceaaaHotLaw
namespace Go.Proofs.Ytlnbpepeofceaaa
open Go.RowKit
set_option linter.unusedVariables false
set_option linter.unusedSimpArgs false

def pcs (l : List Cd) (tr : List (Nat × Nat)) (o : Int) (k : Nat) : Nat := sumTo (fun j => if (cdAt l j).op == o then countAt tr j else 0) k
theorem pcs_hit {l : List Cd} {tr : List (Nat × Nat)} {o : Int} {k : Nat} (h : ((cdAt l k).op == o) = true) : pcs l tr o (k + 1) = pcs l tr o k + countAt tr k := by
  show sumTo _ k + (if ((cdAt l k).op == o) = true then countAt tr k else 0) = _
  rw [h]; rfl
theorem pcs_miss {l : List Cd} {tr : List (Nat × Nat)} {o : Int} {k : Nat} (h : ((cdAt l k).op == o) = false) : pcs l tr o (k + 1) = pcs l tr o k := by
  show sumTo _ k + (if ((cdAt l k).op == o) = true then countAt tr k else 0) = _
  rw [h]; rfl
theorem sumTo_le (f : Nat → Nat) {a b : Nat} (h : a ≤ b) : sumTo f a ≤ sumTo f b := by
  induction h with
  | refl => exact Nat.le_refl _
  | step _ ih => exact Nat.le_trans ih (Nat.le_add_right _ _)
theorem places_law (l : List Cd) (n : Int) (m : List Int) : (countsL l n m).length ≤ l.length ∧ (∀ j, j < (countsL l n m).length → (countsL l n m)[j]? = some (countAt (traceOf l n m) j : Int) ∧ countAt (traceOf l n m) j ≤ 2560) ∧
    (∀ o k, k ≤ (countsL l n m).length → pcs l (traceOf l n m) o k ≤ 2560) ∧ ∀ o, pcs l (traceOf l n m) o (countsL l n m).length = opsOf l o (traceOf l n m) := by
  have ht := traceOf_len l n m
  cases hok : lockOk l n m with
  | false =>
    have e : countsL l n m = [] := by unfold countsL; rw [hok]; rfl
    have e2 : traceOf l n m = [] := by unfold traceOf; rw [hok]; rfl
    rw [e, e2]
    refine ⟨Nat.zero_le _, fun j hj => absurd hj (Nat.not_lt_zero _), fun o k hk => ?_, fun o => rfl⟩
    obtain rfl : k = 0 := by simpa using hk
    exact Nat.zero_le _
  | true =>
    have e : countsL l n m = countRow (traceOf l n m) l.length := by unfold countsL; rw [hok]; rfl
    have hin : ∀ q ∈ traceOf l n m, q.1 < l.length := fun q hq => (trace_in q hq).1
    rw [e, countRow_len]
    have htot := fun o => sum_ops l o hin
    refine ⟨Nat.le_refl _, fun j hj => ⟨countRow_get _ hj, ?_⟩, fun o k hk => ?_, fun o => htot o⟩
    · have : countAt (traceOf l n m) j ≤ (traceOf l n m).length := List.length_filter_le _ _
      omega
    · have h1 := sumTo_le (fun j => if (cdAt l j).op == o then countAt (traceOf l n m) j else 0) hk
      have h2 := htot o
      have h3 := opsOf_le l o (traceOf l n m)
      unfold pcs
      omega

set_option maxRecDepth 100000 in
set_option maxHeartbeats 8000000 in
theorem fnProfilePlaces_c (w : World) (A : Option Addr) (c : Nat) (bs : List Int) (hA : Reads w w.heap.size 1 A bs.length (bs.map (.int .u8))) (hl : bs.length ≤ 9223372036854775807) (hb : ∀ x ∈ bs, 0 ≤ x ∧ x ≤ 255) (hcap : bs.length ≤ c) :
    Calls Try.prog 5 #[.slice A bs.length c] w fun e w' => e = .returned (.bool true) ∧ Below w.heap.size w w' := by
  by_cases hbig0 : 1048576 < bs.length
  · go_enter Try.func5, Try.ntmps5
    go_wp2
    go_ret
    exact ⟨rfl, Below.refl _ _⟩
  · go_enter Try.func5, Try.ntmps5
    go_wp2_with fail
    refine (drawPlaceCounts_c A c bs w hA hb hl hcap).mono ?_
    rintro e w1 ⟨l, A1, c1, n, m, Am, cm, rfl, hl2, hm40, hn9, r1, rM, hB⟩
    obtain ⟨hCl, hC1, hC2, hC3⟩ := places_law l n m
    obtain ⟨s, a, x, y, z, hP, -, -, hx, hy, hz⟩ := prof_vals l n m
    have HI := Lib.hid (fun W h h2 => iPlaceCounts_c A1 Am c1 cm l n m W h h2 (by omega) (by omega))
    have HS := Lib.hid (fun W h h2 => sPlaceCounts_c A1 Am c1 cm l n m W h h2 (by omega) (by omega))
    have HQ := Lib.hid (fun W h h2 => iProfileOf_c A1 Am c1 cm l n m W h h2 (by omega) (by omega))
    rw [hP] at HQ
    have h8 := hC3 8
    have h9 := hC3 9
    have h10 := hC3 10
    rw [hx] at h8
    rw [hy] at h9
    rw [hz] at h10
    generalize countsL l n m = C at *
    generalize traceOf l n m = tr at *
    have HX := Lib.hid h8
    have HY := Lib.hid h9
    have HZ := Lib.hid h10
    have HC1 := Lib.hid hC1
    have HC2 := Lib.hid hC2
    clear hP hx hy hz hC1 hC2 hC3 h8 h9 h10
    go_wp2_with fail
    refine (HI.out w1 r1 rM).mono ?_
    rintro e w2 ⟨A2, c2, rfl, o2, b2⟩
    replace r1 := (r1.below b2).more b2.size
    replace rM := (rM.below b2).more b2.size
    replace hB := below_trans hB (Nat.le_refl _) b2
    clear b2
    have r2 := OwI.rd o2
    go_wp2_with fail
    refine (HS.out w2 r1 rM).mono ?_
    rintro e w3 ⟨A3, c3, rfl, o3, b3⟩
    replace r1 := (r1.below b3).more b3.size
    replace rM := (rM.below b3).more b3.size
    replace r2 := (r2.below b3).more b3.size
    replace hB := below_trans hB (Nat.le_refl _) b3
    clear b3
    have r3 := OwI.rd o3
    clear HI HS o2 o3
    go_wp2_with fail
    refine (sameInts_c A2 A3 c2 c3 _ w3 r2 r3 (by omega)).mono ?_
    rintro e w4 ⟨rfl, b4⟩
    replace r1 := (r1.below b4).more b4.size
    replace rM := (rM.below b4).more b4.size
    replace r2 := (r2.below b4).more b4.size
    replace r3 := (r3.below b4).more b4.size
    replace hB := below_trans hB (Nat.le_refl _) b4
    clear b4
    clear r3
    go_wp2
    have hp := heap_alloc_new w4 (.cells #[.int .i64 0, .int .i64 0, .int .i64 0, .int .i64 0, .int .i64 0] 37)
    have bA : Below w4.heap.size w4 (w4.alloc (.cells #[.int .i64 0, .int .i64 0, .int .i64 0, .int .i64 0, .int .i64 0] 37)) := (by repeat (first | exact Below.refl _ _ | assumption | refine Below.alloc ?_ (by simp <;> omega) _ | refine Below.setCell ?_ (by simp <;> omega) _ | refine Below.drew ?_))
    generalize w4.alloc (.cells #[.int .i64 0, .int .i64 0, .int .i64 0, .int .i64 0, .int .i64 0] 37) = wp at *
    have HP0 := Lib.hid hp
    clear hp
    go_loopw [8] (fun kv wr => ∃ k : Nat, k ≤ C.length ∧ kv = .int .i64 k ∧ Hid (wr.heap[w4.heap.size]? = some (.cells #[.int .i64 0, .int .i64 0, .int .i64 (pcs l tr 8 k), .int .i64 (pcs l tr 9 k), .int .i64 (pcs l tr 10 k)] 37 (0, 0))) ∧ Below w4.heap.size w4 wr) (fun kv _ => C.length - (intOf kv).toNat)
    case atStart => exact ⟨0, Nat.zero_le _, rfl, HP0, bA⟩
    case round =>
      clear HP0 bA
      obtain ⟨k, hk, rfl, HP, hbk⟩ := hrel
      obtain ⟨ow, how⟩ : ∃ z, z = wr := ⟨wr, rfl⟩
      subst how
      by_cases hlt : k < C.length
      · have hkI : (k : Int) < (C.length : Int) := by omega
        have hkl : (k : Int) < (l.length : Int) := by omega
        replace r1 := (r1.below hbk).more hbk.size
        replace r2 := (r2.below hbk).more hbk.size
        obtain ⟨hck, hcb⟩ := HC1.out k hlt
        obtain ⟨pb, po, u, rfl, -, g1, d1⟩ := r2.at_ hlt
        rw [hck] at g1
        injection g1 with g1
        subst g1
        obtain ⟨qb, qo, x1, rfl, -, hx1, l0, l1, l2, l3⟩ := r1.at_ (show k < l.length by omega)
        have hcd := cdAt_get hx1
        have b8 := HC2.out 8 k (by omega)
        have b9 := HC2.out 9 k (by omega)
        have b10 := HC2.out 10 k (by omega)
        have hp := HP.out
        have HH := Lib.hid hp
        have t2 := cell_of_heap hp 2
        have t3 := cell_of_heap hp 3
        have t4 := cell_of_heap hp 4
        have f2 := free_of_heap hp 2
        have f3 := free_of_heap hp 3
        have f4 := free_of_heap hp 4
        have H8 := Lib.hid (fun h : (x1.op == 8) = true => pcs_hit (l := l) (tr := tr) (o := 8) (k := k) (by rw [hcd]; exact h))
        have M8 := Lib.hid (fun h : (x1.op == 8) = false => pcs_miss (l := l) (tr := tr) (o := 8) (k := k) (by rw [hcd]; exact h))
        have H9 := Lib.hid (fun h : (x1.op == 9) = true => pcs_hit (l := l) (tr := tr) (o := 9) (k := k) (by rw [hcd]; exact h))
        have M9 := Lib.hid (fun h : (x1.op == 9) = false => pcs_miss (l := l) (tr := tr) (o := 9) (k := k) (by rw [hcd]; exact h))
        have H10 := Lib.hid (fun h : (x1.op == 10) = true => pcs_hit (l := l) (tr := tr) (o := 10) (k := k) (by rw [hcd]; exact h))
        have M10 := Lib.hid (fun h : (x1.op == 10) = false => pcs_miss (l := l) (tr := tr) (o := 10) (k := k) (by rw [hcd]; exact h))
        clear hck hx1 hcd r1 r2 HP hp
        generalize countAt tr k = cc at *
        generalize hX8 : pcs l tr 8 k = X8 at *
        generalize hX9 : pcs l tr 9 k = X9 at *
        generalize hX10 : pcs l tr 10 k = X10 at *
        clear hX8 hX9 hX10
        have w8 : IntKind.i64.wrap ((X8 : Int) + (cc : Int)) = (X8 : Int) + cc := IntWalk.i64_in _ (by omega)
        have w9 : IntKind.i64.wrap ((X9 : Int) + (cc : Int)) = (X9 : Int) + cc := IntWalk.i64_in _ (by omega)
        have w10 : IntKind.i64.wrap ((X10 : Int) + (cc : Int)) = (X10 : Int) + cc := IntWalk.i64_in _ (by omega)
        by_cases e8 : x1.op = 8
        · have i8 : (x1.op == 8) = true := beq_iff_eq.2 e8
          have i9 : (x1.op == 9) = false := beq_eq_false_iff_ne.2 (by omega)
          have i10 : (x1.op == 10) = false := beq_eq_false_iff_ne.2 (by omega)
          have k8 := H8.out i8
          have k9 := M9.out i9
          have k10 := M10.out i10
          have K8 := Lib.hid k8
          have K9 := Lib.hid k9
          have K10 := Lib.hid k10
          clear k8 k9 k10 H8 M8 H9 M9 H10 M10 e8
          go_wp2
          go_still_tail 8, (by kernel_rfl)
          repeat still_step
          try refine wpStill_nil ?_
          go_wp2
          refine ⟨⟨k + 1, by omega, by go_num, Lib.hid ?_, (hbk.setCell (Nat.le_refl _) _).drew⟩, by simp [intOf]; omega⟩
          show (World.setCell _ _ _).heap[_]? = _
          rw [heap_set_same HH.out 2, K8.out, K9.out, K10.out]
          simp
        · have i8 : (x1.op == 8) = false := beq_eq_false_iff_ne.2 e8
          by_cases e9 : x1.op = 9
          · have i9 : (x1.op == 9) = true := beq_iff_eq.2 e9
            have i10 : (x1.op == 10) = false := beq_eq_false_iff_ne.2 (by omega)
            have k8 := M8.out i8
            have k9 := H9.out i9
            have k10 := M10.out i10
            have K8 := Lib.hid k8
            have K9 := Lib.hid k9
            have K10 := Lib.hid k10
            clear k8 k9 k10 H8 M8 H9 M9 H10 M10 e9
            go_wp2
            go_still_tail 8, (by kernel_rfl)
            repeat still_step
            try refine wpStill_nil ?_
            go_wp2
            refine ⟨⟨k + 1, by omega, by go_num, Lib.hid ?_, (hbk.setCell (Nat.le_refl _) _).drew⟩, by simp [intOf]; omega⟩
            show (World.setCell _ _ _).heap[_]? = _
            rw [heap_set_same HH.out 3, K8.out, K9.out, K10.out]
            simp
          · have i9 : (x1.op == 9) = false := beq_eq_false_iff_ne.2 e9
            by_cases e10 : x1.op = 10
            · have i10 : (x1.op == 10) = true := beq_iff_eq.2 e10
              have k8 := M8.out i8
              have k9 := M9.out i9
              have k10 := H10.out i10
              have K8 := Lib.hid k8
              have K9 := Lib.hid k9
              have K10 := Lib.hid k10
              clear k8 k9 k10 H8 M8 H9 M9 H10 M10 e10
              go_wp2
              go_still_tail 8, (by kernel_rfl)
              repeat still_step
              try refine wpStill_nil ?_
              go_wp2
              refine ⟨⟨k + 1, by omega, by go_num, Lib.hid ?_, (hbk.setCell (Nat.le_refl _) _).drew⟩, by simp [intOf]; omega⟩
              show (World.setCell _ _ _).heap[_]? = _
              rw [heap_set_same HH.out 4, K8.out, K9.out, K10.out]
              simp
            · have i10 : (x1.op == 10) = false := beq_eq_false_iff_ne.2 e10
              have K8 := Lib.hid (M8.out i8)
              have K9 := Lib.hid (M9.out i9)
              have K10 := Lib.hid (M10.out i10)
              clear H8 M8 H9 M9 H10 M10 t2 t3 t4 f2 f3 f4
              go_wp2
              go_roundw
              case rel => exact ⟨k + 1, by omega, by go_num, Lib.hid (by rw [K8.out, K9.out, K10.out]; exact HH.out), hbk⟩
              case measure => (simp [intOf] <;> omega)
      · obtain rfl : k = C.length := by omega
        have hp := HP.out
        rw [HX.out, HY.out, HZ.out] at hp
        have t2 := cell_of_heap hp 2
        have t3 := cell_of_heap hp 3
        have t4 := cell_of_heap hp 4
        clear hk hlt HP hp HC1 HC2 HX HY HZ
        replace r1 := (r1.below hbk).more hbk.size
        replace rM := (rM.below hbk).more hbk.size
        replace r2 := (r2.below hbk).more hbk.size
        replace hB := below_trans hB (Nat.le_refl _) hbk
        clear hbk
        go_wp2_with fail
        refine (HQ.out ow r1 rM).mono ?_
        rintro e w5 ⟨rfl, b5⟩
        replace r1 := (r1.below b5).more b5.size
        replace rM := (rM.below b5).more b5.size
        replace r2 := (r2.below b5).more b5.size
        replace t2 := cell_kept b5 t2
        replace t3 := cell_kept b5 t3
        replace t4 := cell_kept b5 t4
        replace hB := below_trans hB (Nat.le_refl _) b5
        clear b5
        have u2 := (Ext.alloc w5 (.cells #[.int .i64 s, .int .i64 a, .int .i64 x, .int .i64 y, .int .i64 z] 37)).cell t2
        have u3 := (Ext.alloc w5 (.cells #[.int .i64 s, .int .i64 a, .int .i64 x, .int .i64 y, .int .i64 z] 37)).cell t3
        have u4 := (Ext.alloc w5 (.cells #[.int .i64 s, .int .i64 a, .int .i64 x, .int .i64 y, .int .i64 z] 37)).cell t4
        have bE : Below w5.heap.size w5 (w5.alloc (.cells #[.int .i64 s, .int .i64 a, .int .i64 x, .int .i64 y, .int .i64 z] 37)) := (by repeat (first | exact Below.refl _ _ | assumption | refine Below.alloc ?_ (by simp <;> omega) _ | refine Below.setCell ?_ (by simp <;> omega) _ | refine Below.drew ?_))
        have hx := (show ((x : Int) == (x : Int)) = true by simp)
        have hy := (show ((y : Int) == (y : Int)) = true by simp)
        have hz := (show ((z : Int) == (z : Int)) = true by simp)
        replace r1 := (r1.below bE).more bE.size
        replace rM := (rM.below bE).more bE.size
        replace r2 := (r2.below bE).more bE.size
        replace t2 := cell_kept bE t2
        replace t3 := cell_kept bE t3
        replace t4 := cell_kept bE t4
        replace hB := below_trans hB (Nat.le_refl _) bE
        clear bE t2 t3 t4
        go_wp2_with fail
        refine (alive_c _).mono ?_
        rintro e wz ⟨rfl, rfl⟩
        go_wp2
        go_ret
        exact ⟨rfl, hB⟩
end Go.Proofs.Ytlnbpepeofceaaa
