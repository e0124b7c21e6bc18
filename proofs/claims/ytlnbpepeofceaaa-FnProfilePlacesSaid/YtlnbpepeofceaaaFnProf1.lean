/- FnProfileOne: the walk of the law. -/
import Derived.Test.YtlnbpepeofceaaaRunD
import Derived.Test.YtlnbpepeofceaaaProfJ
import Derived.Test.YtlnbpepeofceaaaProf
namespace Go.Proofs.Ytlnbpepeofceaaa
open Go.RowKit
set_option linter.unusedVariables false
set_option linter.unusedSimpArgs false

theorem prof_vals (l : List Cd) (n : Int) (m : List Int) : ∃ s a x y z : Nat, profL l n m = .agg #[.int .i64 s, .int .i64 a, .int .i64 x, .int .i64 y, .int .i64 z] ∧ (traceOf l n m).length = s ∧ actOf (traceOf l n m) = a ∧ opsOf l 8 (traceOf l n m) = x ∧ opsOf l 9 (traceOf l n m) = y ∧ opsOf l 10 (traceOf l n m) = z := ⟨_, _, _, _, _, rfl, rfl, rfl, rfl, rfl, rfl⟩
theorem profOne_law {l : List Cd} {n : Int} {m : List Int} (h : lockOk l n m = true) : actOf (traceOf l 1 m) = (traceOf l 1 m).length := act_one (lock_one h)

set_option maxRecDepth 100000 in
set_option maxHeartbeats 8000000 in
theorem fnProfileOne_c (w : World) (A : Option Addr) (c : Nat) (bs : List Int) (hA : Reads w w.heap.size 1 A bs.length (bs.map (.int .u8))) (hl : bs.length ≤ 9223372036854775807) (hb : ∀ x ∈ bs, 0 ≤ x ∧ x ≤ 255) (hcap : bs.length ≤ c) :
    Calls Try.prog 6 #[.slice A bs.length c] w fun e w' => e = .returned (.bool true) ∧ Below w.heap.size w w' := by
  by_cases hbig0 : 1048576 < bs.length
  · go_enter Try.func6, Try.ntmps6
    go_wp2
    go_ret
    exact ⟨rfl, Below.refl _ _⟩
  · go_enter Try.func6, Try.ntmps6
    go_wp2_with fail
    refine (drawProfileOf_c A c bs w hA hb hl hcap).mono ?_
    rintro e w1 ⟨l, A1, c1, n, m, Am, cm, rfl, hl2, hm40, hn9, r1, rM, hB⟩
    have HL := Lib.hid (fun h : lockOk l n m = true => profOne_law h)
    obtain ⟨s, a, x, y, z, hP, hs, ha, -, -, -⟩ := prof_vals l 1 m
    rw [hs, ha] at HL
    have HI := Lib.hid (fun W h h2 => iProfileOf_c A1 Am c1 cm l 1 m W h h2 (by omega) (by omega))
    have HS := Lib.hid (fun W h h2 => sProfileOf_c A1 Am c1 cm l 1 m W h h2 (by omega) (by omega))
    rw [hP] at HI HS
    clear hP hs ha
    go_wp2_with fail
    refine (HI.out w1 r1 rM).mono ?_
    rintro e w2 ⟨rfl, b2⟩
    replace r1 := (r1.below b2).more b2.size
    replace rM := (rM.below b2).more b2.size
    replace hB := below_trans hB (Nat.le_refl _) b2
    clear b2
    go_wp2
    have b3 : Below w2.heap.size w2 (w2.alloc (.cells #[.int .i64 s, .int .i64 a, .int .i64 x, .int .i64 y, .int .i64 z] 37)) := (by repeat (first | exact Below.refl _ _ | assumption | refine Below.alloc ?_ (by simp <;> omega) _ | refine Below.setCell ?_ (by simp <;> omega) _ | refine Below.drew ?_))
    have hp := heap_alloc_new w2 (.cells #[.int .i64 s, .int .i64 a, .int .i64 x, .int .i64 y, .int .i64 z] 37)
    generalize w2.alloc (.cells #[.int .i64 s, .int .i64 a, .int .i64 x, .int .i64 y, .int .i64 z] 37) = w3 at *
    replace r1 := (r1.below b3).more b3.size
    replace rM := (rM.below b3).more b3.size
    replace hB := below_trans hB (Nat.le_refl _) b3
    clear b3
    have d0 := cell_of_heap hp 0
    have d1 := cell_of_heap hp 1
    have d2 := cell_of_heap hp 2
    have d3 := cell_of_heap hp 3
    have d4 := cell_of_heap hp 4
    have r1d := r1.below (Below.refl w3.heap.size w3).drew
    have rMd := rM.below (Below.refl w3.heap.size w3).drew
    go_region_law (go_simp; go_at_call 23; refine (HS.out w3.drew r1d rMd).mono ?_; rintro e w4 ⟨rfl, b4⟩; have hp4 := (Ext.of_below b4).heap_ (show w3.drew.heap[_]? = some _ from hp); have q0 := cell_of_heap hp4 0; have q1 := cell_of_heap hp4 1; have q2 := cell_of_heap hp4 2; have q3 := cell_of_heap hp4 3; have q4 := cell_of_heap hp4 4)
    all_goals
      have b5 := below_trans (Below.refl w3.heap.size w3).drew (Nat.le_refl _) b4
      clear b4 hp d0 d1 d2 d3 d4 r1d rMd hp4
      replace r1 := (r1.below b5).more b5.size
      replace rM := (rM.below b5).more b5.size
      replace hB := below_trans hB (Nat.le_refl _) b5
      clear b5
      go_wp2_with fail
      refine (runs_c A1 Am c1 cm l n m w4 r1 rM (by omega) (by omega)).mono ?_
      rintro e w5 ⟨rfl, b5⟩
      replace r1 := (r1.below b5).more b5.size
      replace rM := (rM.below b5).more b5.size
      replace q0 := cell_kept b5 q0
      replace q1 := cell_kept b5 q1
      replace q2 := cell_kept b5 q2
      replace q3 := cell_kept b5 q3
      replace q4 := cell_kept b5 q4
      replace hB := below_trans hB (Nat.le_refl _) b5
      clear b5
      cases hok : lockOk l n m with
      | false =>
        go_wp2_with fail
        refine (alive_c _).mono ?_
        rintro e wz ⟨rfl, rfl⟩
        go_wp2
        go_ret
        exact ⟨rfl, hB⟩
      | true =>
        obtain rfl : a = s := HL.out hok
        have hss : ((a : Int) == (a : Int)) = true := by simp
        go_wp2_with fail
        refine (alive_c _).mono ?_
        rintro e wz ⟨rfl, rfl⟩
        go_wp2
        go_ret
        exact ⟨rfl, hB⟩
end Go.Proofs.Ytlnbpepeofceaaa
