/- FnDropDead: the walk of the law. -/
import Derived.Test.YtcaibhjdahmjeaaSame
import Derived.Test.YtcaibhjdahmjeaaRowsEq
import Derived.Test.YtcaibhjdahmjeaaLiveB
import Derived.Test.YtcaibhjdahmjeaaDeadLaw2
import Derived.Test.YtcaibhjdahmjeaaFnSwap
namespace Go.Proofs.Ytcaibhjdahmjeaa
open Go.RowKit
set_option linter.unusedVariables false
set_option linter.unusedSimpArgs false

theorem less_run {l l' : List Cd} (h : pv l = true) {n : Nat} (hn : 1 ≤ n ∧ n ≤ 8) {m : List Int} (hm : memOk m = true) (k : Less n m l l') : runOf l' (n : Int) m = runOf l n m ∧ wholeOf l' (n : Int) m = wholeOf l n m := by
  have hin : inR (n : Int) 1 8 = true := inR_iff.2 (by omega)
  refine ⟨?_, ?_⟩
  · simp only [runOf, lockOk, h, k.ok, hin, hm, Int.toNat_natCast, k.mem]
  · simp only [wholeOf, lockOk, h, k.ok, hin, hm, Int.toNat_natCast, k.spl]

theorem dropDead_law {l x : List Cd} (hp : pv l = true) (hx : dropDeadL l = x) : pv x = true ∧ x.length ≤ l.length ∧ l.length ≤ 40 ∧ (∀ o : Int, 9 ≤ o → countOpI x o = countOpI l o) ∧ dpL x = [] ∧ dropDeadL x = x ∧
    ∀ (n : Nat) (m : List Int), 1 ≤ n ∧ n ≤ 8 → memOk m = true → runOf x (n : Int) m = runOf l n m ∧ wholeOf x (n : Int) m = wholeOf l n m := by
  subst hx
  have hq := dropDeadL_ok hp
  refine ⟨hq, dropDead_len hp, (pv_iff.1 hp).1, fun o ho => ?_, ?_, dropDead_twice hp, fun n m hn hm => less_run hp hn hm (dropDead_less hp hn hm)⟩
  · simp only [countOpI, hp, hq, if_true, dropDead_count hp ho]
  · simp only [dpL, hq, if_true, deadL, dropDead_none hp, List.map_nil]
theorem dropDead_bad {l x : List Cd} (hp : pv l = false) (hx : dropDeadL l = x) : x.length = 0 := by
  rw [← hx]; simp [dropDeadL, hp]

set_option maxRecDepth 100000 in
set_option maxHeartbeats 8000000 in
theorem fnDropDead_c (w : World) (A : Option Addr) (c : Nat) (bs : List Int) (hA : Reads w w.heap.size 1 A bs.length (bs.map (.int .u8))) (hl : bs.length ≤ 9223372036854775807) (hb : ∀ x ∈ bs, 0 ≤ x ∧ x ≤ 255) (hcap : bs.length ≤ c) (Am : Option Addr) (cm : Nat) (ms : List Int) (hAm : Reads w w.heap.size 1 Am ms.length (ms.map (.int .u8))) (hml : ms.length ≤ 9223372036854775807) (hmb : ∀ x ∈ ms, 0 ≤ x ∧ x ≤ 255) (hmcap : ms.length ≤ cm) :
    Calls Try.prog 10 #[.slice A bs.length c, .slice Am ms.length cm] w fun e w' => e = .returned (.bool true) ∧ Below w.heap.size w w' := by
  by_cases hbig0 : 1048576 < bs.length
  · go_enter Try.func10, Try.ntmps10
    go_wp2
    go_ret
    exact ⟨rfl, Below.refl _ _⟩
  by_cases hbig1 : 1048576 < ms.length
  · go_enter Try.func10, Try.ntmps10
    go_wp2
    go_ret
    exact ⟨rfl, Below.refl _ _⟩
  · go_enter Try.func10, Try.ntmps10
    go_wp2_with fail
    refine (drawDropDead_c A c bs w hA hb hl hcap).mono ?_
    rintro e w1 ⟨l, A1, c1, rfl, hl2, o1, hB⟩
    have r1 := OC.rd o1
    have hn1 := fun e => OC.nilc o1 e
    clear o1
    have hlx : (dropDeadL l).length ≤ 40 := dropDeadL_len l
    have HB := Lib.hid (fun h : pv l = false => dropDead_bad h rfl)
    have HL := Lib.hid (fun h : pv l = true => dropDead_law h rfl)
    have HI := Lib.hid (fun W (h : RdC W W.heap.size A1 l) => iDropDead_c A1 c1 l W h (by omega) hn1)
    have HS := Lib.hid (fun W (h : RdC W W.heap.size A1 l) => sDropDead_c A1 c1 l W h (by omega) hn1)
    clear hn1
    generalize dropDeadL l = x at *
    go_wp2_with fail
    refine (HI.out w1 r1).mono ?_
    rintro e w2 ⟨A2, c2, rfl, o2, b2⟩
    replace r1 := (r1.below b2).more b2.size
    replace hB := below_trans hB (Nat.le_refl _) b2
    clear b2
    have r2 := OwC.rd o2
    have HN := Lib.hid (fun e => OwC.nilc o2 e)
    clear o2
    go_wp2_with fail
    refine (HS.out w2 r1).mono ?_
    rintro e w3 ⟨A3, c3, rfl, o3, b3⟩
    replace r1 := (r1.below b3).more b3.size
    replace r2 := (r2.below b3).more b3.size
    replace hB := below_trans hB (Nat.le_refl _) b3
    clear b3
    have r3 := OwC.rd o3
    clear HI HS o3
    go_wp2_with fail
    refine (sameCodes_c A2 A3 c2 c3 _ w3 r2 r3 (by omega)).mono ?_
    rintro e w4 ⟨rfl, b4⟩
    replace r1 := (r1.below b4).more b4.size
    replace r2 := (r2.below b4).more b4.size
    replace r3 := (r3.below b4).more b4.size
    replace hB := below_trans hB (Nat.le_refl _) b4
    clear b4
    clear r3
    go_wp2_with fail
    refine (sProgramValid_c A1 c1 l w4 r1 (by omega)).mono ?_
    rintro e w5 ⟨rfl, b5⟩
    replace r1 := (r1.below b5).more b5.size
    replace r2 := (r2.below b5).more b5.size
    replace hB := below_trans hB (Nat.le_refl _) b5
    clear b5
    cases hp : pv l with
    | false =>
      rw [HB.out hp]
      go_wp2_with fail
      refine (alive_c _).mono ?_
      rintro e wz ⟨rfl, rfl⟩
      go_wp2
      go_ret
      exact ⟨rfl, hB⟩
    | true =>
      obtain ⟨hpx, hlen, hl40, hcnt, hdp, hdd, hrun⟩ := HL.out hp
      obtain ⟨n, hn⟩ : ∃ n : Nat, 1 + ms.length % 8 = n := ⟨_, rfl⟩
      have hn8 : 1 ≤ n ∧ n ≤ 8 := by omega
      have hq : 1 + (ms.length : Int) % 8 = (n : Int) := by omega
      have HR := Lib.hid (hrun n [3, 1, 4, 1, 5, 9] hn8 (by decide))
      have HQ := Lib.hid hq
      have HC := Lib.hid (fun (k : Nat) (h : 9 ≤ k) => hcnt (k : Int) (by omega))
      have HB1 := Lib.hid (fun o : Int => show -1 ≤ countOpI l o ∧ countOpI l o ≤ 40 by
        have := countOp_le l o
        unfold countOpI
        rw [hp]
        simp only [if_true]
        omega)
      have HDP := Lib.hid hdp
      have HI2 := Lib.hid (fun W (h : RdC W W.heap.size A2 x) => iDropDead_c A2 c2 x W h (by omega) HN.out)
      rw [hdd] at HI2
      have HLEN := Lib.hid (show x.length ≤ l.length from hlen)
      clear hp hpx hlen hcnt hdp hdd hrun hn hq HL HB HN
      go_wp2
      go_loopw [7] (fun kv wr => ∃ k : Nat, 9 ≤ k ∧ k ≤ 15 ∧ kv = .int .i64 k ∧ Below w5.heap.size w5 wr) (fun kv _ => 15 - (intOf kv).toNat)
      case atStart => exact ⟨9, by omega, by omega, rfl, Below.refl _ _⟩
      case round =>
        obtain ⟨k, hk9, hk, rfl, hbk⟩ := hrel
        obtain ⟨ow, how⟩ : ∃ z, z = wr := ⟨wr, rfl⟩
        subst how
        by_cases hlt : k ≤ 14
        · have hkI : (k : Int) ≤ 14 := by omega
          have r1' := (r1.below hbk).more hbk.size
          have r2' := (r2.below hbk).more hbk.size
          clear r1 r2
          go_wp2_with fail
          refine (iCountOps_c A2 c2 x (k : Int) ow r2' (by omega)).mono ?_
          rintro e ow2 ⟨rfl, bk2⟩
          rw [HC.out k hk9]
          go_wp2_with fail
          refine (iCountOps_c A1 c1 l (k : Int) ow2 ((r1'.below bk2).more bk2.size) (by omega)).mono ?_
          rintro e ow3 ⟨rfl, bk3⟩
          have hbo := HB1.out (k : Int)
          generalize countOpI l (k : Int) = v at *
          have hne : (v != v) = false := by simp
          have hb4 := below_trans hbk (Nat.le_refl _) (below_trans bk2 (Nat.le_refl _) bk3)
          go_wp2
          go_roundw
          case rel => exact ⟨k + 1, by omega, by omega, by go_num, hb4⟩
          case measure => (simp [intOf] <;> omega)
        · obtain rfl : k = 15 := by omega
          clear hk hk9 hlt HC HB1
          replace r1 := (r1.below hbk).more hbk.size
          replace r2 := (r2.below hbk).more hbk.size
          replace hB := below_trans hB (Nat.le_refl _) hbk
          clear hbk
          go_wp2_with fail
          have rM1 : RdI (ow.alloc (.cells #[.int .i64 3, .int .i64 1, .int .i64 4, .int .i64 1, .int .i64 5, .int .i64 9] 3)) (ow.alloc (.cells #[.int .i64 3, .int .i64 1, .int .i64 4, .int .i64 1, .int .i64 5, .int .i64 9] 3)).heap.size (some ⟨ow.heap.size, 0, none⟩) [3, 1, 4, 1, 5, 9] :=
            (OR.lit ow ow.heap.size 3 1 6 #[.int .i64 3, .int .i64 1, .int .i64 4, .int .i64 1, .int .i64 5, .int .i64 9] (Nat.le_refl _) (by omega) rfl).reads
          have b6 : Below ow.heap.size ow (ow.alloc (.cells #[.int .i64 3, .int .i64 1, .int .i64 4, .int .i64 1, .int .i64 5, .int .i64 9] 3)) := (by repeat (first | exact Below.refl _ _ | assumption | refine Below.alloc ?_ (by simp <;> omega) _ | refine Below.setCell ?_ (by simp <;> omega) _ | refine Below.drew ?_))
          replace r1 := (r1.below b6).more b6.size
          replace r2 := (r2.below b6).more b6.size
          replace hB := below_trans hB (Nat.le_refl _) b6
          clear b6
          rw [HQ.out]
          refine (iRunLock_c A1 _ c1 6 l n [3, 1, 4, 1, 5, 9] _ r1 rM1 (by omega) (by decide)).mono ?_
          rintro e w7 ⟨M1, d1, rfl, rm1, b7⟩
          replace r1 := (r1.below b7).more b7.size
          replace r2 := (r2.below b7).more b7.size
          replace rM1 := (rM1.below b7).more b7.size
          replace hB := below_trans hB (Nat.le_refl _) b7
          clear b7
          clear rM1
          go_wp2_with fail
          have rM2 : RdI (w7.alloc (.cells #[.int .i64 3, .int .i64 1, .int .i64 4, .int .i64 1, .int .i64 5, .int .i64 9] 3)) (w7.alloc (.cells #[.int .i64 3, .int .i64 1, .int .i64 4, .int .i64 1, .int .i64 5, .int .i64 9] 3)).heap.size (some ⟨w7.heap.size, 0, none⟩) [3, 1, 4, 1, 5, 9] :=
            (OR.lit w7 w7.heap.size 3 1 6 #[.int .i64 3, .int .i64 1, .int .i64 4, .int .i64 1, .int .i64 5, .int .i64 9] (Nat.le_refl _) (by omega) rfl).reads
          have b8 : Below w7.heap.size w7 (w7.alloc (.cells #[.int .i64 3, .int .i64 1, .int .i64 4, .int .i64 1, .int .i64 5, .int .i64 9] 3)) := (by repeat (first | exact Below.refl _ _ | assumption | refine Below.alloc ?_ (by simp <;> omega) _ | refine Below.setCell ?_ (by simp <;> omega) _ | refine Below.drew ?_))
          replace r1 := (r1.below b8).more b8.size
          replace r2 := (r2.below b8).more b8.size
          replace rm1 := (rm1.below b8).more b8.size
          replace hB := below_trans hB (Nat.le_refl _) b8
          clear b8
          rw [HQ.out]
          refine (iRunLock_c A2 _ c2 6 x n [3, 1, 4, 1, 5, 9] _ r2 rM2 (by omega) (by decide)).mono ?_
          rintro e w9 ⟨M2, d2, rfl, rm2, b9⟩
          replace r1 := (r1.below b9).more b9.size
          replace r2 := (r2.below b9).more b9.size
          replace rm1 := (rm1.below b9).more b9.size
          replace rM2 := (rM2.below b9).more b9.size
          replace hB := below_trans hB (Nat.le_refl _) b9
          clear b9
          clear rM2
          rw [HR.out.1, HR.out.2]
          rw [HR.out.1] at rm2
          have hrl := runOf_len l (n : Int) [3, 1, 4, 1, 5, 9]
          generalize runOf l (n : Int) [3, 1, 4, 1, 5, 9] = R at *
          generalize wholeOf l (n : Int) [3, 1, 4, 1, 5, 9] = bw at *
          have hbb : (bw == bw) = true := by simp
          go_wp2_with fail
          refine (sameInts_c M1 M2 d1 d2 R w9 rm1 rm2 (by omega)).mono ?_
          rintro e w10 ⟨rfl, b10⟩
          replace r1 := (r1.below b10).more b10.size
          replace r2 := (r2.below b10).more b10.size
          replace rm1 := (rm1.below b10).more b10.size
          replace rm2 := (rm2.below b10).more b10.size
          replace hB := below_trans hB (Nat.le_refl _) b10
          clear b10
          clear rm1
          clear rm2
          go_wp2_with fail
          refine (iDeadPlacesA_c A2 c2 x w10 r2 (by omega)).mono ?_
          rintro e w11 ⟨A5, c5, rfl, o5, b11⟩
          replace r1 := (r1.below b11).more b11.size
          replace r2 := (r2.below b11).more b11.size
          replace hB := below_trans hB (Nat.le_refl _) b11
          clear b11
          clear o5
          rw [HDP.out]
          have hle := HLEN.out
          go_wp2_with fail
          refine (HI2.out w11 r2).mono ?_
          rintro e w12 ⟨A6, c6, rfl, o6, b12⟩
          replace r1 := (r1.below b12).more b12.size
          replace r2 := (r2.below b12).more b12.size
          replace hB := below_trans hB (Nat.le_refl _) b12
          clear b12
          have r6 := OwC.rd o6
          clear o6
          go_wp2_with fail
          refine (sameCodes_c A6 A2 c6 c2 _ w12 r6 r2 (by omega)).mono ?_
          rintro e w13 ⟨rfl, b13⟩
          replace r1 := (r1.below b13).more b13.size
          replace r2 := (r2.below b13).more b13.size
          replace r6 := (r6.below b13).more b13.size
          replace hB := below_trans hB (Nat.le_refl _) b13
          clear b13
          go_wp2
          go_ret
          exact ⟨rfl, hB⟩
end Go.Proofs.Ytcaibhjdahmjeaa
