/- FnOccupancyBranch: the walk of the law. -/
import Derived.Test.YtlnbpepeofceaaaRunD
import Derived.Test.YtlnbpepeofceaaaOccI
import Derived.Test.YtlnbpepeofceaaaBranchLaw
namespace Go.Proofs.Ytlnbpepeofceaaa
open Go.RowKit
set_option linter.unusedVariables false
set_option linter.unusedSimpArgs false

theorem branch_vals {n : Int} {m : List Int} (h : lockOk branchL n m = true) : (n = 1 ∧ occL branchL n m = 100) ∨ (n = 2 ∧ occL branchL n m = 83) ∨ (n = 3 ∧ occL branchL n m = 88) ∨ (n = 4 ∧ occL branchL n m = 91) ∨ (n = 5 ∧ occL branchL n m = 93) ∨ (n = 6 ∧ occL branchL n m = 94) ∨ (n = 7 ∧ occL branchL n m = 95) ∨ (n = 8 ∧ occL branchL n m = 95) := by
  have hn := lock_n h
  obtain ⟨h1, h2⟩ := branch_occ h
  have e : n = 1 ∨ n = 2 ∨ n = 3 ∨ n = 4 ∨ n = 5 ∨ n = 6 ∨ n = 7 ∨ n = 8 := by omega
  rcases e with rfl | rfl | rfl | rfl | rfl | rfl | rfl | rfl
  · rw [h1 rfl]; simp
  · rw [h2 (by decide)]; decide
  · rw [h2 (by decide)]; decide
  · rw [h2 (by decide)]; decide
  · rw [h2 (by decide)]; decide
  · rw [h2 (by decide)]; decide
  · rw [h2 (by decide)]; decide
  · rw [h2 (by decide)]; decide

set_option maxRecDepth 100000 in
set_option maxHeartbeats 8000000 in
theorem fnOccupancyBranch_c (w : World) (A : Option Addr) (c : Nat) (bs : List Int) (hA : Reads w w.heap.size 1 A bs.length (bs.map (.int .u8))) (hl : bs.length ≤ 9223372036854775807) (hb : ∀ x ∈ bs, 0 ≤ x ∧ x ≤ 255) (hcap : bs.length ≤ c) :
    Calls Try.prog 9 #[.slice A bs.length c] w fun e w' => e = .returned (.bool true) ∧ Below w.heap.size w w' := by
  by_cases hbig0 : 1048576 < bs.length
  · go_enter Try.func9, Try.ntmps9
    go_wp2
    go_ret
    exact ⟨rfl, Below.refl _ _⟩
  · go_enter Try.func9, Try.ntmps9
    go_wp2_with fail
    refine (drawOccupancy_c A c bs w hA hb hl hcap).mono ?_
    rintro e w1 ⟨l0, A0, c0, n, m, Am, cm, rfl, hl2, hm40, hn9, r0, rM, hB⟩
    clear r0
    go_wp2_with fail
    have b2 : Below w1.heap.size w1 (w1.alloc (.cells #[.int .i64 2, .int .i64 0, .int .i64 0, .int .i64 0, .int .i64 11, .int .i64 0, .int .i64 0, .int .i64 0, .int .i64 1, .int .i64 1, .int .i64 1, .int .i64 0, .int .i64 14, .int .i64 0, .int .i64 0, .int .i64 0] 39)) := (by repeat (first | exact Below.refl _ _ | assumption | refine Below.alloc ?_ (by simp <;> omega) _ | refine Below.setCell ?_ (by simp <;> omega) _ | refine Below.drew ?_))
    have hN := heap_alloc_new w1 (.cells #[.int .i64 2, .int .i64 0, .int .i64 0, .int .i64 0, .int .i64 11, .int .i64 0, .int .i64 0, .int .i64 0, .int .i64 1, .int .i64 1, .int .i64 1, .int .i64 0, .int .i64 14, .int .i64 0, .int .i64 0, .int .i64 0] 39)
    have r1 : RdC (w1.alloc (.cells #[.int .i64 2, .int .i64 0, .int .i64 0, .int .i64 0, .int .i64 11, .int .i64 0, .int .i64 0, .int .i64 0, .int .i64 1, .int .i64 1, .int .i64 1, .int .i64 0, .int .i64 14, .int .i64 0, .int .i64 0, .int .i64 0] 39)) (w1.alloc (.cells #[.int .i64 2, .int .i64 0, .int .i64 0, .int .i64 0, .int .i64 11, .int .i64 0, .int .i64 0, .int .i64 0, .int .i64 1, .int .i64 1, .int .i64 1, .int .i64 0, .int .i64 14, .int .i64 0, .int .i64 0, .int .i64 0] 39)).heap.size (some ⟨w1.heap.size, 0, none⟩) branchL := rd_lit hN rfl
    clear hN
    generalize w1.alloc (.cells #[.int .i64 2, .int .i64 0, .int .i64 0, .int .i64 0, .int .i64 11, .int .i64 0, .int .i64 0, .int .i64 0, .int .i64 1, .int .i64 1, .int .i64 1, .int .i64 0, .int .i64 14, .int .i64 0, .int .i64 0, .int .i64 0] 39) = w2 at *
    replace rM := (rM.below b2).more b2.size
    replace hB := below_trans hB (Nat.le_refl _) b2
    clear b2
    refine (iOccupancy_c _ Am 4 cm branchL n m w2 r1 rM (by decide) (by omega)).mono ?_
    rintro e w3 ⟨rfl, b3⟩
    replace rM := (rM.below b3).more b3.size
    replace r1 := (r1.below b3).more b3.size
    replace hB := below_trans hB (Nat.le_refl _) b3
    clear b3
    go_wp2_with fail
    refine (sOccupancy_c _ Am 4 cm branchL n m w3 r1 rM (by decide) (by omega)).mono ?_
    rintro e w4 ⟨rfl, b4⟩
    replace rM := (rM.below b4).more b4.size
    replace r1 := (r1.below b4).more b4.size
    replace hB := below_trans hB (Nat.le_refl _) b4
    clear b4
    have HV := Lib.hid (fun h : lockOk branchL n m = true => branch_vals h)
    generalize hvv : occL branchL n m = v at *
    clear hvv
    have hne : (v != v) = false := by simp
    go_wp2_with fail
    refine (runs_c _ Am 4 cm branchL n m w4 r1 rM (by decide) (by omega)).mono ?_
    rintro e w5 ⟨rfl, b5⟩
    replace rM := (rM.below b5).more b5.size
    replace r1 := (r1.below b5).more b5.size
    replace hB := below_trans hB (Nat.le_refl _) b5
    clear b5
    cases hok : lockOk branchL n m with
    | false =>
      go_wp2_with fail
      refine (alive_c _).mono ?_
      rintro e wz ⟨rfl, rfl⟩
      go_wp2
      go_ret
      exact ⟨rfl, hB⟩
    | true =>
      rcases HV.out hok with ⟨rfl, rfl⟩ | ⟨rfl, rfl⟩ | ⟨rfl, rfl⟩ | ⟨rfl, rfl⟩ | ⟨rfl, rfl⟩ | ⟨rfl, rfl⟩ | ⟨rfl, rfl⟩ | ⟨rfl, rfl⟩
      · clear hok HV
        go_wp2_with fail
        refine (alive_c _).mono ?_
        rintro e wz ⟨rfl, rfl⟩
        go_wp2
        go_ret
        exact ⟨rfl, hB⟩
      · clear hok HV
        go_wp2_with fail
        refine (alive_c _).mono ?_
        rintro e wz ⟨rfl, rfl⟩
        go_wp2
        go_ret
        exact ⟨rfl, hB⟩
      · clear hok HV
        go_wp2_with fail
        refine (alive_c _).mono ?_
        rintro e wz ⟨rfl, rfl⟩
        go_wp2
        go_ret
        exact ⟨rfl, hB⟩
      · clear hok HV
        go_wp2_with fail
        refine (alive_c _).mono ?_
        rintro e wz ⟨rfl, rfl⟩
        go_wp2
        go_ret
        exact ⟨rfl, hB⟩
      · clear hok HV
        go_wp2_with fail
        refine (alive_c _).mono ?_
        rintro e wz ⟨rfl, rfl⟩
        go_wp2
        go_ret
        exact ⟨rfl, hB⟩
      · clear hok HV
        go_wp2_with fail
        refine (alive_c _).mono ?_
        rintro e wz ⟨rfl, rfl⟩
        go_wp2
        go_ret
        exact ⟨rfl, hB⟩
      · clear hok HV
        go_wp2_with fail
        refine (alive_c _).mono ?_
        rintro e wz ⟨rfl, rfl⟩
        go_wp2
        go_ret
        exact ⟨rfl, hB⟩
      · clear hok HV
        go_wp2_with fail
        refine (alive_c _).mono ?_
        rintro e wz ⟨rfl, rfl⟩
        go_wp2
        go_ret
        exact ⟨rfl, hB⟩
end Go.Proofs.Ytlnbpepeofceaaa
