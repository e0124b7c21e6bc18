/- FnProfileOf: the walk of the law. -/
import Derived.Test.YtlnbpepeofceaaaFnProf1
namespace Go.Proofs.Ytlnbpepeofceaaa
open Go.RowKit
set_option linter.unusedVariables false
set_option linter.unusedSimpArgs false

theorem profOf_bad {l : List Cd} {n : Int} {m : List Int} (h : lockOk l n m = false) : actOf (traceOf l n m) = 0 ∧ opsOf l 8 (traceOf l n m) = 0 ∧ opsOf l 9 (traceOf l n m) = 0 ∧ opsOf l 10 (traceOf l n m) = 0 ∧ (traceOf l n m).length = 0 := by
  have e : traceOf l n m = [] := by unfold traceOf; rw [h]; rfl
  rw [e]
  exact ⟨rfl, rfl, rfl, rfl, rfl⟩
theorem profOf_law {l : List Cd} {n : Int} {m : List Int} (h : lockOk l n m = true) : (traceOf l n m).length ≤ actOf (traceOf l n m) ∧ actOf (traceOf l n m) ≤ (traceOf l n m).length * n.toNat ∧ opsOf l 8 (traceOf l n m) + opsOf l 9 (traceOf l n m) + opsOf l 10 (traceOf l n m) ≤ (traceOf l n m).length ∧ 1 ≤ n ∧ n ≤ 8 :=
  ⟨(trace_act h).1, (trace_act h).2, ops3_le l _, (lock_n h).1, (lock_n h).2.1⟩

set_option maxRecDepth 100000 in
set_option maxHeartbeats 8000000 in
theorem fnProfileOf_c (w : World) (A : Option Addr) (c : Nat) (bs : List Int) (hA : Reads w w.heap.size 1 A bs.length (bs.map (.int .u8))) (hl : bs.length ≤ 9223372036854775807) (hb : ∀ x ∈ bs, 0 ≤ x ∧ x ≤ 255) (hcap : bs.length ≤ c) :
    Calls Try.prog 7 #[.slice A bs.length c] w fun e w' => e = .returned (.bool true) ∧ Below w.heap.size w w' := by
  by_cases hbig0 : 1048576 < bs.length
  · go_enter Try.func7, Try.ntmps7
    go_wp2
    go_ret
    exact ⟨rfl, Below.refl _ _⟩
  · go_enter Try.func7, Try.ntmps7
    go_wp2_with fail
    refine (drawProfileOf_c A c bs w hA hb hl hcap).mono ?_
    rintro e w1 ⟨l, A1, c1, n, m, Am, cm, rfl, hl2, hm40, hn9, r1, rM, hB⟩
    have HL := Lib.hid (fun h : lockOk l n m = true => profOf_law h)
    have HB := Lib.hid (fun h : lockOk l n m = false => profOf_bad h)
    obtain ⟨s, a, x, y, z, hP, hs, ha, hx, hy, hz⟩ := prof_vals l n m
    have hs25 := traceOf_len l n m
    rw [hs] at hs25
    rw [hs, ha, hx, hy, hz] at HL HB
    have HI := Lib.hid (fun W h h2 => iProfileOf_c A1 Am c1 cm l n m W h h2 (by omega) (by omega))
    have HS := Lib.hid (fun W h h2 => sProfileOf_c A1 Am c1 cm l n m W h h2 (by omega) (by omega))
    have HT := Lib.hid (fun W h h2 => iLockTrace_c A1 Am c1 cm l n m W h h2 (by omega) (by omega))
    rw [hP] at HI HS
    rw [hs] at HT
    clear hP hs ha hx hy hz
    go_wp2_with fail
    refine (HI.out w1 r1 rM).mono ?_
    rintro e w2 ⟨rfl, b2⟩
    replace r1 := (r1.below b2).more b2.size
    replace rM := (rM.below b2).more b2.size
    replace hB := below_trans hB (Nat.le_refl _) b2
    clear b2
    go_wp2
    have b3 : Below w2.heap.size w2 (w2.alloc (.cells #[.int .i64 s, .int .i64 a, .int .i64 x, .int .i64 y, .int .i64 z] 37)) := (by repeat (first | exact Below.refl _ _ | assumption | refine Below.alloc ?_ (by simp <;> omega) _ | refine Below.setCell ?_ (by simp <;> omega) _ | refine Below.drew ?_))
    have hp := heap_alloc_new w2 (.cells #[.int .i64 s, .int .i64 a, .int .i64 x, .int .i64 y, .int .i64 z] 37)
    generalize w2.alloc (.cells #[.int .i64 s, .int .i64 a, .int .i64 x, .int .i64 y, .int .i64 z] 37) = w3 at *
    replace r1 := (r1.below b3).more b3.size
    replace rM := (rM.below b3).more b3.size
    replace hB := below_trans hB (Nat.le_refl _) b3
    clear b3
    have d0 := cell_of_heap hp 0
    have d1 := cell_of_heap hp 1
    have d2 := cell_of_heap hp 2
    have d3 := cell_of_heap hp 3
    have d4 := cell_of_heap hp 4
    have r1d := r1.below (Below.refl w3.heap.size w3).drew
    have rMd := rM.below (Below.refl w3.heap.size w3).drew
    go_region_law (go_simp; go_at_call 23; refine (HS.out w3.drew r1d rMd).mono ?_; rintro e w4 ⟨rfl, b4⟩; have hp4 := (Ext.of_below b4).heap_ (show w3.drew.heap[_]? = some _ from hp); have q0 := cell_of_heap hp4 0; have q1 := cell_of_heap hp4 1; have q2 := cell_of_heap hp4 2; have q3 := cell_of_heap hp4 3; have q4 := cell_of_heap hp4 4)
    all_goals
      have b5 := below_trans (Below.refl w3.heap.size w3).drew (Nat.le_refl _) b4
      clear b4 hp d0 d1 d2 d3 d4 r1d rMd hp4
      replace r1 := (r1.below b5).more b5.size
      replace rM := (rM.below b5).more b5.size
      replace hB := below_trans hB (Nat.le_refl _) b5
      clear b5
      go_wp2_with fail
      refine (runs_c A1 Am c1 cm l n m w4 r1 rM (by omega) (by omega)).mono ?_
      rintro e w5 ⟨rfl, b5⟩
      replace r1 := (r1.below b5).more b5.size
      replace rM := (rM.below b5).more b5.size
      replace q0 := cell_kept b5 q0
      replace q1 := cell_kept b5 q1
      replace q2 := cell_kept b5 q2
      replace q3 := cell_kept b5 q3
      replace q4 := cell_kept b5 q4
      replace hB := below_trans hB (Nat.le_refl _) b5
      clear b5
      cases hok : lockOk l n m with
      | false =>
        obtain ⟨rfl, rfl, rfl, rfl, rfl⟩ := HB.out hok
        go_wp2_with fail
        refine (alive_c _).mono ?_
        rintro e wz ⟨rfl, rfl⟩
        go_wp2
        go_ret
        exact ⟨rfl, hB⟩
      | true =>
        obtain ⟨h1, h2, h3, h4, h5⟩ := HL.out hok
        obtain ⟨j, rfl⟩ : ∃ j : Nat, n = (j : Int) := ⟨n.toNat, by omega⟩
        rw [Int.toNat_natCast] at h2
        have hsj : s * j ≤ s * 8 := Nat.mul_le_mul_left s (by omega)
        have w1' : IntKind.i64.wrap ((s : Int) * (j : Int)) = ((s * j : Nat) : Int) := by rw [IntWalk.i64_in _ (by rw [← Int.natCast_mul]; omega)]; simp
        have w2' : IntKind.i64.wrap ((x : Int) + (y : Int)) = (x : Int) + (y : Int) := IntWalk.i64_in _ (by omega)
        have w3' : IntKind.i64.wrap ((x : Int) + (y : Int) + (z : Int)) = (x : Int) + (y : Int) + (z : Int) := IntWalk.i64_in _ (by omega)
        have w4' : (x : Int) + (y : Int) + (z : Int) ≤ (s : Int) := by omega
        have w5' : decide ((x : Int) + (y : Int) + (z : Int) ≤ (s : Int)) = true := decide_eq_true w4'
        have hss : ((s : Int) == (s : Int)) = true := by simp
        generalize hsn : s * j = sj at *
        clear hsn hsj
        clear HL HB
        have r1d := r1.below (Below.refl w5.heap.size w5).drew
        have rMd := rM.below (Below.refl w5.heap.size w5).drew
        have p0 : w5.drew.cell? _ = _ := q0
        have p1 : w5.drew.cell? _ = _ := q1
        have p2 : w5.drew.cell? _ = _ := q2
        have p3 : w5.drew.cell? _ = _ := q3
        have p4 : w5.drew.cell? _ = _ := q4
        go_wp2
        go_region_held3 (fun W => W.cell? ⟨w2.heap.size, 0, none⟩ = some (.int .i64 s) ∧ W.cell? ⟨w2.heap.size, 1, none⟩ = some (.int .i64 a) ∧ W.cell? ⟨w2.heap.size, 2, none⟩ = some (.int .i64 x) ∧ W.cell? ⟨w2.heap.size, 3, none⟩ = some (.int .i64 y) ∧ W.cell? ⟨w2.heap.size, 4, none⟩ = some (.int .i64 z))
          (first | exact ⟨p0, p1, p2, p3, p4⟩ | exact ⟨cell_kept b9 p0, cell_kept b9 p1, cell_kept b9 p2, cell_kept b9 p3, cell_kept b9 p4⟩ | go_keep)
          ((go_at_call 17; refine (HT.out w5.drew r1d rMd).mono ?_; rintro e w9 ⟨⟨T, tc, rfl⟩, b9⟩))
        rename_i hh
        clear hh
        have b10 := below_trans hB.drew (Nat.le_refl _) b9
        clear b9 q0 q1 q2 q3 q4 p0 p1 p2 p3 p4 r1d rMd
        go_wp2
        go_ret
        exact ⟨rfl, b10⟩
end Go.Proofs.Ytlnbpepeofceaaa
