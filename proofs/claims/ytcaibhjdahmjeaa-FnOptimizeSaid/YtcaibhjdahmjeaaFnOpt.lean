/- FnOptimize: the walk of the law. -/
import Derived.Test.YtcaibhjdahmjeaaFnDrop
import Derived.Test.YtcaibhjdahmjeaaOpt
import Derived.Test.YtcaibhjdahmjeaaOptLaw
import Derived.Test.YtcaibhjdahmjeaaProfJ
namespace Go.Proofs.Ytcaibhjdahmjeaa
open Go.RowKit
set_option linter.unusedVariables false
set_option linter.unusedSimpArgs false

theorem opt_law {l x : List Cd} (hp : pv l = true) (hx : optL l = x) : pv x = true ∧ x.length ≤ l.length ∧ l.length ≤ 40 ∧
    ∀ (n : Nat) (m : List Int), 1 ≤ n ∧ n ≤ 8 → memOk m = true → runOf x (n : Int) m = runOf l n m ∧ wholeOf x (n : Int) m = wholeOf l n m ∧ (traceOf x n m).length ≤ (traceOf l n m).length := by
  have hu : usePicksL l = picked l := by simp [usePicksL, hp]
  have e : optL l = packL (dropDeadL (picked l)) := by rw [optL, hu]
  rw [e] at hx
  subst hx
  have k0 := opt_less hp (n := 1) (by omega) (m := [0]) (by decide)
  refine ⟨k0.ok, k0.len, (pv_iff.1 hp).1, fun n m hn hm => ?_⟩
  have k := opt_less hp hn hm
  obtain ⟨h1, h2⟩ := less_run hp hn hm k
  refine ⟨h1, h2, ?_⟩
  have hin : inR (n : Int) 1 8 = true := inR_iff.2 (by omega)
  have o1 : lockOk l n m = true := by simp [lockOk, hp, hin, hm]
  have o2 : lockOk (packL (dropDeadL (picked l))) n m = true := by simp [lockOk, k.ok, hin, hm]
  simp only [traceOf, o1, o2, if_true, Int.toNat_natCast]
  exact k.bl
theorem prof_five (l : List Cd) (n : Int) (m : List Int) : ∃ a b c d : Nat, profL l n m = .agg #[.int .i64 (traceOf l n m).length, .int .i64 a, .int .i64 b, .int .i64 c, .int .i64 d] := ⟨_, _, _, _, rfl⟩

set_option maxRecDepth 100000 in
set_option maxHeartbeats 8000000 in
theorem fnOptimize_c (w : World) (A : Option Addr) (c : Nat) (bs : List Int) (hA : Reads w w.heap.size 1 A bs.length (bs.map (.int .u8))) (hl : bs.length ≤ 9223372036854775807) (hb : ∀ x ∈ bs, 0 ≤ x ∧ x ≤ 255) (hcap : bs.length ≤ c) (Am : Option Addr) (cm : Nat) (ms : List Int) (hAm : Reads w w.heap.size 1 Am ms.length (ms.map (.int .u8))) (hml : ms.length ≤ 9223372036854775807) (hmb : ∀ x ∈ ms, 0 ≤ x ∧ x ≤ 255) (hmcap : ms.length ≤ cm) :
    Calls Try.prog 11 #[.slice A bs.length c, .slice Am ms.length cm] w fun e w' => e = .returned (.bool true) ∧ Below w.heap.size w w' := by
  by_cases hbig0 : 1048576 < bs.length
  · go_enter Try.func11, Try.ntmps11
    go_wp2
    go_ret
    exact ⟨rfl, Below.refl _ _⟩
  by_cases hbig1 : 1048576 < ms.length
  · go_enter Try.func11, Try.ntmps11
    go_wp2
    go_ret
    exact ⟨rfl, Below.refl _ _⟩
  · go_enter Try.func11, Try.ntmps11
    go_wp2_with fail
    refine (drawOptimize_c A c bs w hA hb hl hcap).mono ?_
    rintro e w1 ⟨l, A1, c1, rfl, hl2, o1, hB⟩
    have r1 := OC.rd o1
    clear o1
    have hlx : (optL l).length ≤ 40 := optL_len l
    have HB := Lib.hid (fun h : pv l = false => show (optL l).length = 0 by rw [optL_bad h]; rfl)
    have HL := Lib.hid (fun h : pv l = true => opt_law h rfl)
    have HI := Lib.hid (fun W (h : RdC W W.heap.size A1 l) => iOptimize_c A1 c1 l W h (by omega))
    have HS := Lib.hid (fun W (h : RdC W W.heap.size A1 l) => sOptimize_c A1 c1 l W h (by omega))
    generalize optL l = x at *
    go_wp2_with fail
    refine (HI.out w1 r1).mono ?_
    rintro e w2 ⟨A2, c2, rfl, o2, b2⟩
    replace r1 := (r1.below b2).more b2.size
    replace hB := below_trans hB (Nat.le_refl _) b2
    clear b2
    have r2 := OwC.rd o2
    go_wp2_with fail
    refine (HS.out w2 r1).mono ?_
    rintro e w3 ⟨A3, c3, rfl, o3, b3⟩
    replace r1 := (r1.below b3).more b3.size
    replace r2 := (r2.below b3).more b3.size
    replace hB := below_trans hB (Nat.le_refl _) b3
    clear b3
    have r3 := OwC.rd o3
    clear HI HS o2 o3
    go_wp2_with fail
    refine (sameCodes_c A2 A3 c2 c3 _ w3 r2 r3 (by omega)).mono ?_
    rintro e w4 ⟨rfl, b4⟩
    replace r1 := (r1.below b4).more b4.size
    replace r2 := (r2.below b4).more b4.size
    replace r3 := (r3.below b4).more b4.size
    replace hB := below_trans hB (Nat.le_refl _) b4
    clear b4
    clear r3
    go_wp2_with fail
    refine (sProgramValid_c A1 c1 l w4 r1 (by omega)).mono ?_
    rintro e w5 ⟨rfl, b5⟩
    replace r1 := (r1.below b5).more b5.size
    replace r2 := (r2.below b5).more b5.size
    replace hB := below_trans hB (Nat.le_refl _) b5
    clear b5
    cases hp : pv l with
    | false =>
      rw [HB.out hp]
      go_wp2_with fail
      refine (alive_c _).mono ?_
      rintro e wz ⟨rfl, rfl⟩
      go_wp2
      go_ret
      exact ⟨rfl, hB⟩
    | true =>
      obtain ⟨hpx, hlen, hl40, hrun⟩ := HL.out hp
      obtain ⟨n, hn⟩ : ∃ n : Nat, 1 + ms.length % 8 = n := ⟨_, rfl⟩
      have hn8 : 1 ≤ n ∧ n ≤ 8 := by omega
      have hq : 1 + (ms.length : Int) % 8 = (n : Int) := by omega
      have HR := Lib.hid (hrun n [3, 1, 4, 1, 5, 9] hn8 (by decide))
      have HQ := Lib.hid hq
      have HPX := Lib.hid (fun W h => iProgramValid_c A2 c2 x W h (by omega))
      rw [hpx] at HPX
      have HLEN := Lib.hid (show x.length ≤ l.length from hlen)
      clear hp hpx hlen hrun hn hq HL HB
      go_wp2_with fail
      have rM : RdI (w5.alloc (.cells #[.int .i64 3, .int .i64 1, .int .i64 4, .int .i64 1, .int .i64 5, .int .i64 9] 3)) (w5.alloc (.cells #[.int .i64 3, .int .i64 1, .int .i64 4, .int .i64 1, .int .i64 5, .int .i64 9] 3)).heap.size (some ⟨w5.heap.size, 0, none⟩) [3, 1, 4, 1, 5, 9] :=
        (OR.lit w5 w5.heap.size 3 1 6 #[.int .i64 3, .int .i64 1, .int .i64 4, .int .i64 1, .int .i64 5, .int .i64 9] (Nat.le_refl _) (by omega) rfl).reads
      have b6 : Below w5.heap.size w5 (w5.alloc (.cells #[.int .i64 3, .int .i64 1, .int .i64 4, .int .i64 1, .int .i64 5, .int .i64 9] 3)) := (by repeat (first | exact Below.refl _ _ | assumption | refine Below.alloc ?_ (by simp <;> omega) _ | refine Below.setCell ?_ (by simp <;> omega) _ | refine Below.drew ?_))
      replace r1 := (r1.below b6).more b6.size
      replace r2 := (r2.below b6).more b6.size
      replace hB := below_trans hB (Nat.le_refl _) b6
      clear b6
      rw [HQ.out]
      refine (iRunLock_c A1 _ c1 6 l n [3, 1, 4, 1, 5, 9] _ r1 rM (by omega) (by decide)).mono ?_
      rintro e w7 ⟨M1, d1, rfl, rm1, b7⟩
      replace r1 := (r1.below b7).more b7.size
      replace r2 := (r2.below b7).more b7.size
      replace rM := (rM.below b7).more b7.size
      replace hB := below_trans hB (Nat.le_refl _) b7
      clear b7
      go_wp2_with fail
      refine (iRunLock_c A2 _ c2 6 x n [3, 1, 4, 1, 5, 9] _ r2 rM (by omega) (by decide)).mono ?_
      rintro e w8 ⟨M2, d2, rfl, rm2, b8⟩
      replace r1 := (r1.below b8).more b8.size
      replace r2 := (r2.below b8).more b8.size
      replace rM := (rM.below b8).more b8.size
      replace rm1 := (rm1.below b8).more b8.size
      replace hB := below_trans hB (Nat.le_refl _) b8
      clear b8
      rw [HR.out.1, HR.out.2.1]
      rw [HR.out.1] at rm2
      have hrl := runOf_len l (n : Int) [3, 1, 4, 1, 5, 9]
      generalize runOf l (n : Int) [3, 1, 4, 1, 5, 9] = R at *
      generalize wholeOf l (n : Int) [3, 1, 4, 1, 5, 9] = bw at *
      have hbb : (bw == bw) = true := by simp
      go_wp2_with fail
      refine (sameInts_c M1 M2 d1 d2 R w8 rm1 rm2 (by omega)).mono ?_
      rintro e w9 ⟨rfl, b9⟩
      replace r1 := (r1.below b9).more b9.size
      replace r2 := (r2.below b9).more b9.size
      replace rM := (rM.below b9).more b9.size
      replace rm1 := (rm1.below b9).more b9.size
      replace rm2 := (rm2.below b9).more b9.size
      replace hB := below_trans hB (Nat.le_refl _) b9
      clear b9
      clear rm1
      clear rm2
      have hle := HLEN.out
      obtain ⟨pa, pb, pc, pd, hP⟩ := prof_five l n [3, 1, 4, 1, 5, 9]
      obtain ⟨qa, qb, qc, qd, hQ⟩ := prof_five x n [3, 1, 4, 1, 5, 9]
      have hst := HR.out.2.2
      have hpl := traceOf_len l n [3, 1, 4, 1, 5, 9]
      generalize (traceOf l n [3, 1, 4, 1, 5, 9]).length = tl at *
      generalize (traceOf x n [3, 1, 4, 1, 5, 9]).length = tx at *
      have hsd : tx ≤ tl := by omega
      have HP1 := Lib.hid hP
      have HP2 := Lib.hid hQ
      clear hP hQ
      have hf1 : ∀ w : World, (Instr.field 52 (.agg #[.int .i64 tx, .int .i64 qa, .int .i64 qb, .int .i64 qc, .int .i64 qd]) 0).run Try.prog w = .ok (.int .i64 tx) w := fun _ => by kernel_rfl
      have hf2 : ∀ w : World, (Instr.field 52 (.agg #[.int .i64 tl, .int .i64 pa, .int .i64 pb, .int .i64 pc, .int .i64 pd]) 0).run Try.prog w = .ok (.int .i64 tl) w := fun _ => by kernel_rfl
      go_wp2_with fail
      refine (iProfileOf_c A2 _ c2 6 x n [3, 1, 4, 1, 5, 9] w9 r2 rM (by omega) (by decide)).mono ?_
      rintro e w10 ⟨rfl, b10⟩
      replace r1 := (r1.below b10).more b10.size
      replace r2 := (r2.below b10).more b10.size
      replace rM := (rM.below b10).more b10.size
      replace hB := below_trans hB (Nat.le_refl _) b10
      clear b10
      rw [HP2.out]
      go_wp2_with fail
      refine (iProfileOf_c A1 _ c1 6 l n [3, 1, 4, 1, 5, 9] w10 r1 rM (by omega) (by decide)).mono ?_
      rintro e w11 ⟨rfl, b11⟩
      replace r1 := (r1.below b11).more b11.size
      replace r2 := (r2.below b11).more b11.size
      replace rM := (rM.below b11).more b11.size
      replace hB := below_trans hB (Nat.le_refl _) b11
      clear b11
      rw [HP1.out]
      go_wp2_with fail
      refine (HPX.out w11 r2).mono ?_
      rintro e w12 ⟨rfl, b12⟩
      replace r1 := (r1.below b12).more b12.size
      replace r2 := (r2.below b12).more b12.size
      replace rM := (rM.below b12).more b12.size
      replace hB := below_trans hB (Nat.le_refl _) b12
      clear b12
      go_wp2
      go_ret
      exact ⟨rfl, hB⟩
end Go.Proofs.Ytcaibhjdahmjeaa
