/- FnPackRegs: the walk of the law. -/
import Derived.Test.YtcaibhjdahmjeaaSame
import Derived.Test.YtcaibhjdahmjeaaIRun
import Derived.Test.YtcaibhjdahmjeaaRowsEq
import Derived.Test.YtcaibhjdahmjeaaSem
import Derived.Test.YtcaibhjdahmjeaaNames1
import Derived.Test.YtcaibhjdahmjeaaReads
import Derived.Test.YtcaibhjdahmjeaaFnSwap
namespace Go.Proofs.Ytcaibhjdahmjeaa
open Go.RowKit
set_option linter.unusedVariables false
set_option linter.unusedSimpArgs false

theorem pack_law {l x : List Cd} (hp : pv l = true) (hx : packL l = x) : pv x = true ∧ usedOf x &&& (usedOf x + 1) = 0 ∧ packL x = x ∧
    ∀ (n : Nat) (m : List Int), 1 ≤ n ∧ n ≤ 8 → memOk m = true → runOf x (n : Int) m = runOf l n m ∧ wholeOf x (n : Int) m = wholeOf l n m := by
  subst hx
  have h' := packL_ok hp
  refine ⟨h', packL_set hp, packL_twice hp, fun n m hn hm => ?_⟩
  obtain ⟨k1, k2, k3, k4⟩ := packL_run hp hn.2 m
  have hin : inR (n : Int) 1 8 = true := inR_iff.2 (by omega)
  refine ⟨?_, ?_⟩
  · simp only [runOf, lockOk, hp, h', hin, hm, Int.toNat_natCast, k1]
  · simp only [wholeOf, lockOk, hp, h', hin, hm, Int.toNat_natCast, k2, k4]

set_option maxRecDepth 100000 in
set_option maxHeartbeats 8000000 in
theorem fnPackRegs_c (w : World) (A : Option Addr) (c : Nat) (bs : List Int) (hA : Reads w w.heap.size 1 A bs.length (bs.map (.int .u8))) (hl : bs.length ≤ 9223372036854775807) (hb : ∀ x ∈ bs, 0 ≤ x ∧ x ≤ 255) (hcap : bs.length ≤ c) :
    Calls Try.prog 7 #[.slice A bs.length c] w fun e w' => e = .returned (.bool true) ∧ Below w.heap.size w w' := by
  by_cases hbig0 : 1048576 < bs.length
  · go_enter Try.func7, Try.ntmps7
    go_wp2
    go_ret
    exact ⟨rfl, Below.refl _ _⟩
  · go_enter Try.func7, Try.ntmps7
    go_wp2_with fail
    refine (drawPackRegs_c A c bs w hA hb hl hcap).mono ?_
    rintro e w1 ⟨l, A1, c1, rfl, hl2, o1, hB⟩
    have r1 := OC.rd o1
    obtain ⟨x, hx⟩ : ∃ x, packL l = x := ⟨_, rfl⟩
    have hlx : x.length ≤ l.length := by rw [← hx]; exact packL_len l
    have HF := Lib.hid (fun hp : pv l = true => pack_law hp hx)
    have H0 := Lib.hid (fun hp : pv l = false => show x = [] by rw [← hx]; simp [packL, hp])
    have HS := Lib.hid (fun W a b => (sPackRegs_c A1 c1 l W a b))
    have HI := Lib.hid (fun W a b => (iPackRegs_c A1 c1 l W a b))
    rw [hx] at HS HI
    clear hx
    go_wp2_with fail
    refine (HI.out w1 r1 (by omega)).mono ?_
    rintro e w2 ⟨A2, c2, rfl, o2, b2⟩
    replace r1 := (r1.below b2).more b2.size
    replace hB := below_trans hB (Nat.le_refl _) b2
    clear b2
    have r2 := OwC.rd o2
    go_wp2_with fail
    refine (HS.out w2 r1 (by omega)).mono ?_
    rintro e w3 ⟨A3, c3, rfl, o3, b3⟩
    replace r1 := (r1.below b3).more b3.size
    replace r2 := (r2.below b3).more b3.size
    replace hB := below_trans hB (Nat.le_refl _) b3
    clear b3
    have r3 := OwC.rd o3
    go_wp2_with fail
    refine (sameCodes_c A2 A3 c2 c3 _ w3 r2 r3 (by omega)).mono ?_
    rintro e w4 ⟨rfl, b4⟩
    replace r1 := (r1.below b4).more b4.size
    replace r2 := (r2.below b4).more b4.size
    replace r3 := (r3.below b4).more b4.size
    replace hB := below_trans hB (Nat.le_refl _) b4
    clear b4
    clear r3
    go_wp2_with fail
    refine (sProgramValid_c A1 c1 l w4 r1 (by omega)).mono ?_
    rintro e w5 ⟨rfl, b5⟩
    replace r1 := (r1.below b5).more b5.size
    replace r2 := (r2.below b5).more b5.size
    replace hB := below_trans hB (Nat.le_refl _) b5
    clear b5
    cases hp : pv l with
    | false =>
      have hx0 := H0.out hp
      subst hx0
      clear hp
      go_wp2_with fail
      refine (alive_c _).mono ?_
      rintro e wz ⟨rfl, rfl⟩
      go_wp2
      go_ret
      exact ⟨rfl, hB⟩
    | true =>
      obtain ⟨hpx, hset, htw, hrun⟩ := HF.out hp
      have hus : regsUsedI x = ((usedOf x : Nat) : Int) := by simp [regsUsedI, hpx]
      have hu16 := usedOf_lt x
      have HR := Lib.hid (hrun 4 [3, 1, 4, 1, 5, 9] (by omega) (by decide))
      have HT := Lib.hid htw
      have hsu := Lib.hid (fun W a b => sameCodes_c A2 A2 c2 c2 x W a a b)
      have hu := Lib.hid (fun W a b => iRegsUsed_c A2 c2 x W a b)
      rw [hus] at hu
      clear hp hpx htw hrun hus
      generalize usedOf x = u at *
      have HSET := Lib.hid hset
      clear hset
      go_wp2_with fail
      refine (hu.out w5 r2 (by omega)).mono ?_
      rintro e w6 ⟨rfl, b6⟩
      replace r1 := (r1.below b6).more b6.size
      replace r2 := (r2.below b6).more b6.size
      replace hB := below_trans hB (Nat.le_refl _) b6
      clear b6
      go_wp2_with fail
      have rM1 : RdI (w6.alloc (.cells #[.int .i64 3, .int .i64 1, .int .i64 4, .int .i64 1, .int .i64 5, .int .i64 9] 3)) (w6.alloc (.cells #[.int .i64 3, .int .i64 1, .int .i64 4, .int .i64 1, .int .i64 5, .int .i64 9] 3)).heap.size (some ⟨w6.heap.size, 0, none⟩) [3, 1, 4, 1, 5, 9] :=
        (OR.lit w6 w6.heap.size 3 1 6 #[.int .i64 3, .int .i64 1, .int .i64 4, .int .i64 1, .int .i64 5, .int .i64 9] (Nat.le_refl _) (by omega) rfl).reads
      have b7 : Below w6.heap.size w6 (w6.alloc (.cells #[.int .i64 3, .int .i64 1, .int .i64 4, .int .i64 1, .int .i64 5, .int .i64 9] 3)) := (by repeat (first | exact Below.refl _ _ | assumption | refine Below.alloc ?_ (by simp <;> omega) _ | refine Below.setCell ?_ (by simp <;> omega) _ | refine Below.drew ?_))
      replace r1 := (r1.below b7).more b7.size
      replace r2 := (r2.below b7).more b7.size
      replace hB := below_trans hB (Nat.le_refl _) b7
      clear b7
      refine (iRunLock_c A1 _ c1 6 l (4 : Nat) [3, 1, 4, 1, 5, 9] _ r1 rM1 (by omega) (by decide)).mono ?_
      rintro e w8 ⟨M1, d1, rfl, rm1, b8⟩
      replace r1 := (r1.below b8).more b8.size
      replace r2 := (r2.below b8).more b8.size
      replace rM1 := (rM1.below b8).more b8.size
      replace hB := below_trans hB (Nat.le_refl _) b8
      clear b8
      clear rM1
      go_wp2_with fail
      have rM2 : RdI (w8.alloc (.cells #[.int .i64 3, .int .i64 1, .int .i64 4, .int .i64 1, .int .i64 5, .int .i64 9] 3)) (w8.alloc (.cells #[.int .i64 3, .int .i64 1, .int .i64 4, .int .i64 1, .int .i64 5, .int .i64 9] 3)).heap.size (some ⟨w8.heap.size, 0, none⟩) [3, 1, 4, 1, 5, 9] :=
        (OR.lit w8 w8.heap.size 3 1 6 #[.int .i64 3, .int .i64 1, .int .i64 4, .int .i64 1, .int .i64 5, .int .i64 9] (Nat.le_refl _) (by omega) rfl).reads
      have b9 : Below w8.heap.size w8 (w8.alloc (.cells #[.int .i64 3, .int .i64 1, .int .i64 4, .int .i64 1, .int .i64 5, .int .i64 9] 3)) := (by repeat (first | exact Below.refl _ _ | assumption | refine Below.alloc ?_ (by simp <;> omega) _ | refine Below.setCell ?_ (by simp <;> omega) _ | refine Below.drew ?_))
      replace r1 := (r1.below b9).more b9.size
      replace r2 := (r2.below b9).more b9.size
      replace rm1 := (rm1.below b9).more b9.size
      replace hB := below_trans hB (Nat.le_refl _) b9
      clear b9
      refine (iRunLock_c A2 _ c2 6 x (4 : Nat) [3, 1, 4, 1, 5, 9] _ r2 rM2 (by omega) (by decide)).mono ?_
      rintro e w10 ⟨M2, d2, rfl, rm2, b10⟩
      replace r1 := (r1.below b10).more b10.size
      replace r2 := (r2.below b10).more b10.size
      replace rm1 := (rm1.below b10).more b10.size
      replace rM2 := (rM2.below b10).more b10.size
      replace hB := below_trans hB (Nat.le_refl _) b10
      clear b10
      clear rM2
      rw [HR.out.1, HR.out.2]
      rw [HR.out.1] at rm2
      have hrl := runOf_len l ((4 : Nat) : Int) [3, 1, 4, 1, 5, 9]
      generalize runOf l ((4 : Nat) : Int) [3, 1, 4, 1, 5, 9] = R at *
      generalize wholeOf l ((4 : Nat) : Int) [3, 1, 4, 1, 5, 9] = bw at *
      have hbb : (bw == bw) = true := by simp
      have hand : bits .and .i64 (u : Int) ((u : Int) + 1) = 0 := by
        rw [show (u : Int) + 1 = ((u + 1 : Nat) : Int) by omega, bits_and64 _ _ (by omega) (by omega), HSET.out]; rfl
      go_wp2_with fail
      refine (sameInts_c M1 M2 d1 d2 R w10 rm1 rm2 (by omega)).mono ?_
      rintro e w11 ⟨rfl, b11⟩
      replace r1 := (r1.below b11).more b11.size
      replace r2 := (r2.below b11).more b11.size
      replace rm1 := (rm1.below b11).more b11.size
      replace rm2 := (rm2.below b11).more b11.size
      replace hB := below_trans hB (Nat.le_refl _) b11
      clear b11
      clear rm1
      clear rm2
      go_wp2_with fail
      refine (iPackRegs_c A2 c2 x w11 r2 (by omega)).mono ?_
      rintro e w12 ⟨A5, c5, rfl, o5, b12⟩
      replace r1 := (r1.below b12).more b12.size
      replace r2 := (r2.below b12).more b12.size
      replace hB := below_trans hB (Nat.le_refl _) b12
      clear b12
      have r5 := OwC.rd o5
      rw [HT.out] at r5 ⊢
      go_wp2_with fail
      refine (sameCodes_c A5 A2 c5 c2 x w12 r5 r2 (by omega)).mono ?_
      rintro e w13 ⟨rfl, b13⟩
      replace r1 := (r1.below b13).more b13.size
      replace r2 := (r2.below b13).more b13.size
      replace r5 := (r5.below b13).more b13.size
      replace hB := below_trans hB (Nat.le_refl _) b13
      clear b13
      go_wp2
      go_ret
      exact ⟨rfl, hB⟩
end Go.Proofs.Ytcaibhjdahmjeaa
