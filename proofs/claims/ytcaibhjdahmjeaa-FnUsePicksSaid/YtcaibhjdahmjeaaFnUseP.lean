/- FnUsePicks: the walk of the law. -/
import Derived.Test.YtcaibhjdahmjeaaSame
import Derived.Test.YtcaibhjdahmjeaaRowsEq
import Derived.Test.YtcaibhjdahmjeaaPicks
import Derived.Test.YtcaibhjdahmjeaaFnPick
import Derived.Test.YtcaibhjdahmjeaaFnSwap
namespace Go.Proofs.Ytcaibhjdahmjeaa
open Go.RowKit
set_option linter.unusedVariables false
set_option linter.unusedSimpArgs false

theorem use_law {l x : List Cd} (hp : pv l = true) (hx : usePicksL l = x) : pv x = true ∧ x.length + 2 * (picksI l l.length).length = l.length ∧ picksI x x.length = [] ∧
    ∀ (n : Nat) (m : List Int), 1 ≤ n ∧ n ≤ 8 → memOk m = true → runOf x (n : Int) m = runOf l n m ∧ wholeOf x (n : Int) m = wholeOf l n m ∧ (lockS x n m).regs = (lockS l n m).regs := by
  have e : x = picked l := by rw [← hx]; simp [usePicksL, hp]
  subst e
  obtain ⟨h1, h2, h3⟩ := tree_picked hp
  have e1 : ∀ y : List Cd, pv y = true → (picksI y y.length).length = (picksFrom y y.length).length := fun y hy => by simp [picksI, hy]
  have e2 := picked_length l
  refine ⟨h3, by rw [e1 l hp]; exact e2, ?_, fun n m hn hm => alike_run hp h3 hn hm (picks_run hp hn.2 m)⟩
  apply List.eq_nil_of_length_eq_zero
  rw [e1 _ h3, picks_none hp]
  rfl

set_option maxRecDepth 100000 in
set_option maxHeartbeats 8000000 in
theorem fnUsePicks_c (w : World) (A : Option Addr) (c : Nat) (bs : List Int) (hA : Reads w w.heap.size 1 A bs.length (bs.map (.int .u8))) (hl : bs.length ≤ 9223372036854775807) (hb : ∀ x ∈ bs, 0 ≤ x ∧ x ≤ 255) (hcap : bs.length ≤ c) (Am : Option Addr) (cm : Nat) (ms : List Int) (hAm : Reads w w.heap.size 1 Am ms.length (ms.map (.int .u8))) (hml : ms.length ≤ 9223372036854775807) (hmb : ∀ x ∈ ms, 0 ≤ x ∧ x ≤ 255) (hmcap : ms.length ≤ cm) :
    Calls Try.prog 3 #[.slice A bs.length c, .slice Am ms.length cm] w fun e w' => e = .returned (.bool true) ∧ Below w.heap.size w w' := by
  by_cases hbig0 : 1048576 < bs.length
  · go_enter Try.func3, Try.ntmps3
    go_wp2
    go_ret
    exact ⟨rfl, Below.refl _ _⟩
  by_cases hbig1 : 1048576 < ms.length
  · go_enter Try.func3, Try.ntmps3
    go_wp2
    go_ret
    exact ⟨rfl, Below.refl _ _⟩
  · go_enter Try.func3, Try.ntmps3
    go_wp2_with fail
    refine (drawUsePicks_c A c bs w hA hb hl hcap).mono ?_
    rintro e w1 ⟨l, A1, c1, rfl, hl2, o1, hB⟩
    have r1 := OC.rd o1
    obtain ⟨x, hx⟩ : ∃ x, usePicksL l = x := ⟨_, rfl⟩
    have hi : (if pv l then picked l else []) = x := hx
    have hlx : x.length ≤ l.length := by rw [← hx]; exact usePicksL_len l
    have HF := Lib.hid (fun hp : pv l = true => use_law hp hx)
    have H0 := Lib.hid (fun hp : pv l = false => show x = [] by rw [← hx]; simp [usePicksL, hp])
    have HS := Lib.hid (fun W a b => (sUsePicks_c A1 c1 l W a b))
    have HI := Lib.hid (fun W a b => (iUsePicks_c A1 c1 l W a b))
    rw [hi] at HI; rw [hx] at HS
    clear hx hi
    go_wp2_with fail
    refine (HI.out w1 r1 (by omega)).mono ?_
    rintro e w2 ⟨A2, c2, rfl, o2, b2⟩
    replace r1 := (r1.below b2).more b2.size
    replace hB := below_trans hB (Nat.le_refl _) b2
    clear b2
    have r2 := OwC.rd o2
    go_wp2_with fail
    refine (HS.out w2 r1 (by omega)).mono ?_
    rintro e w3 ⟨A3, c3, rfl, o3, b3⟩
    replace r1 := (r1.below b3).more b3.size
    replace r2 := (r2.below b3).more b3.size
    replace hB := below_trans hB (Nat.le_refl _) b3
    clear b3
    have r3 := OwC.rd o3
    go_wp2_with fail
    refine (sameCodes_c A2 A3 c2 c3 _ w3 r2 r3 (by omega)).mono ?_
    rintro e w4 ⟨rfl, b4⟩
    replace r1 := (r1.below b4).more b4.size
    replace r2 := (r2.below b4).more b4.size
    replace r3 := (r3.below b4).more b4.size
    replace hB := below_trans hB (Nat.le_refl _) b4
    clear b4
    clear r3
    go_wp2_with fail
    refine (sProgramValid_c A1 c1 l w4 r1 (by omega)).mono ?_
    rintro e w5 ⟨rfl, b5⟩
    replace r1 := (r1.below b5).more b5.size
    replace r2 := (r2.below b5).more b5.size
    replace hB := below_trans hB (Nat.le_refl _) b5
    clear b5
    cases hp : pv l with
    | false =>
      have hx0 := H0.out hp
      subst hx0
      clear hp
      go_wp2_with fail
      refine (alive_c _).mono ?_
      rintro e wz ⟨rfl, rfl⟩
      go_wp2
      go_ret
      exact ⟨rfl, hB⟩
    | true =>
      obtain ⟨hpx, hlen, hnone, hrun⟩ := HF.out hp
      have HP := Lib.hid hp
      have HPX := Lib.hid hpx
      have HL := Lib.hid hlen
      have HN := Lib.hid hnone
      obtain ⟨n, hn⟩ : ∃ n : Nat, 1 + ms.length % 8 = n := ⟨_, rfl⟩
      have hn8 : 1 ≤ n ∧ n ≤ 8 := by omega
      have hq : 1 + (ms.length : Int) % 8 = (n : Int) := by omega
      have HR := Lib.hid (hrun n [3, 1, 4, 1, 5, 9] hn8 (by decide))
      have HR2 := Lib.hid (hrun n [7, 8] hn8 (by decide))
      have HO := Lib.hid (show lockOk l n [7, 8] = true by simp only [lockOk, hp, inR_iff.2 (show 1 ≤ (n : Int) ∧ (n : Int) ≤ 8 by omega)]; decide)
      have HOX := Lib.hid (show lockOk x n [7, 8] = true by simp only [lockOk, hpx, inR_iff.2 (show 1 ≤ (n : Int) ∧ (n : Int) ≤ 8 by omega)]; decide)
      clear hp hpx hlen hnone hrun hn
      have HQ := Lib.hid hq
      clear hq
      go_wp2_with fail
      have rM1 : RdI (w5.alloc (.cells #[.int .i64 3, .int .i64 1, .int .i64 4, .int .i64 1, .int .i64 5, .int .i64 9] 3)) (w5.alloc (.cells #[.int .i64 3, .int .i64 1, .int .i64 4, .int .i64 1, .int .i64 5, .int .i64 9] 3)).heap.size (some ⟨w5.heap.size, 0, none⟩) [3, 1, 4, 1, 5, 9] :=
        (OR.lit w5 w5.heap.size 3 1 6 #[.int .i64 3, .int .i64 1, .int .i64 4, .int .i64 1, .int .i64 5, .int .i64 9] (Nat.le_refl _) (by omega) rfl).reads
      have b6 : Below w5.heap.size w5 (w5.alloc (.cells #[.int .i64 3, .int .i64 1, .int .i64 4, .int .i64 1, .int .i64 5, .int .i64 9] 3)) := (by repeat (first | exact Below.refl _ _ | assumption | refine Below.alloc ?_ (by simp <;> omega) _ | refine Below.setCell ?_ (by simp <;> omega) _ | refine Below.drew ?_))
      replace r1 := (r1.below b6).more b6.size
      replace r2 := (r2.below b6).more b6.size
      replace hB := below_trans hB (Nat.le_refl _) b6
      clear b6
      rw [HQ.out]
      refine (iRunLock_c A1 _ c1 6 l n [3, 1, 4, 1, 5, 9] _ r1 rM1 (by omega) (by decide)).mono ?_
      rintro e w7 ⟨M1, d1, rfl, rm1, b7⟩
      replace r1 := (r1.below b7).more b7.size
      replace r2 := (r2.below b7).more b7.size
      replace rM1 := (rM1.below b7).more b7.size
      replace hB := below_trans hB (Nat.le_refl _) b7
      clear b7
      clear rM1
      go_wp2_with fail
      have rM2 : RdI (w7.alloc (.cells #[.int .i64 3, .int .i64 1, .int .i64 4, .int .i64 1, .int .i64 5, .int .i64 9] 3)) (w7.alloc (.cells #[.int .i64 3, .int .i64 1, .int .i64 4, .int .i64 1, .int .i64 5, .int .i64 9] 3)).heap.size (some ⟨w7.heap.size, 0, none⟩) [3, 1, 4, 1, 5, 9] :=
        (OR.lit w7 w7.heap.size 3 1 6 #[.int .i64 3, .int .i64 1, .int .i64 4, .int .i64 1, .int .i64 5, .int .i64 9] (Nat.le_refl _) (by omega) rfl).reads
      have b8 : Below w7.heap.size w7 (w7.alloc (.cells #[.int .i64 3, .int .i64 1, .int .i64 4, .int .i64 1, .int .i64 5, .int .i64 9] 3)) := (by repeat (first | exact Below.refl _ _ | assumption | refine Below.alloc ?_ (by simp <;> omega) _ | refine Below.setCell ?_ (by simp <;> omega) _ | refine Below.drew ?_))
      replace r1 := (r1.below b8).more b8.size
      replace r2 := (r2.below b8).more b8.size
      replace rm1 := (rm1.below b8).more b8.size
      replace hB := below_trans hB (Nat.le_refl _) b8
      clear b8
      refine (iRunLock_c A2 _ c2 6 x n [3, 1, 4, 1, 5, 9] _ r2 rM2 (by omega) (by decide)).mono ?_
      rintro e w9 ⟨M2, d2, rfl, rm2, b9⟩
      replace r1 := (r1.below b9).more b9.size
      replace r2 := (r2.below b9).more b9.size
      replace rm1 := (rm1.below b9).more b9.size
      replace rM2 := (rM2.below b9).more b9.size
      replace hB := below_trans hB (Nat.le_refl _) b9
      clear b9
      clear rM2
      rw [HR.out.1, HR.out.2.1]
      rw [HR.out.1] at rm2
      have hrl := runOf_len l (n : Int) [3, 1, 4, 1, 5, 9]
      generalize runOf l (n : Int) [3, 1, 4, 1, 5, 9] = R at *
      generalize wholeOf l (n : Int) [3, 1, 4, 1, 5, 9] = bw at *
      go_wp2_with fail
      refine (sameInts_c M1 M2 d1 d2 R w9 rm1 rm2 (by omega)).mono ?_
      rintro e w10 ⟨rfl, b10⟩
      replace r1 := (r1.below b10).more b10.size
      replace r2 := (r2.below b10).more b10.size
      replace rm1 := (rm1.below b10).more b10.size
      replace rm2 := (rm2.below b10).more b10.size
      replace hB := below_trans hB (Nat.le_refl _) b10
      clear b10
      clear rm1
      clear rm2
      have hbb : (bw == bw) = true := by simp
      go_wp2_with fail
      have rM3 : RdI (w10.alloc (.cells #[.int .i64 7, .int .i64 8] 3)) (w10.alloc (.cells #[.int .i64 7, .int .i64 8] 3)).heap.size (some ⟨w10.heap.size, 0, none⟩) [7, 8] :=
        (OR.lit w10 w10.heap.size 3 1 2 #[.int .i64 7, .int .i64 8] (Nat.le_refl _) (by omega) rfl).reads
      have b11 : Below w10.heap.size w10 (w10.alloc (.cells #[.int .i64 7, .int .i64 8] 3)) := (by repeat (first | exact Below.refl _ _ | assumption | refine Below.alloc ?_ (by simp <;> omega) _ | refine Below.setCell ?_ (by simp <;> omega) _ | refine Below.drew ?_))
      replace r1 := (r1.below b11).more b11.size
      replace r2 := (r2.below b11).more b11.size
      replace hB := below_trans hB (Nat.le_refl _) b11
      clear b11
      refine (iLockRegs_c A1 _ c1 2 l n [7, 8] _ r1 rM3 (by omega) (by decide) HO.out).mono ?_
      rintro e w12 ⟨z1, T1, tc1, U1, uc1, rfl, hz1, I1, b12⟩
      replace r1 := (r1.below b12).more b12.size
      replace r2 := (r2.below b12).more b12.size
      replace rM3 := (rM3.below b12).more b12.size
      replace hB := below_trans hB (Nat.le_refl _) b12
      clear b12
      clear rM3
      have hs1 : (lockS l (n : Int).toNat [7, 8]).regs.length = z1.n := by rw [hz1]; exact (lockS_len HO.out).len
      have q1 := I1.rows hs1
      rw [← hs1]
      clear I1 hz1 hs1
      go_wp2_with fail
      have rM4 : RdI (w12.alloc (.cells #[.int .i64 7, .int .i64 8] 3)) (w12.alloc (.cells #[.int .i64 7, .int .i64 8] 3)).heap.size (some ⟨w12.heap.size, 0, none⟩) [7, 8] :=
        (OR.lit w12 w12.heap.size 3 1 2 #[.int .i64 7, .int .i64 8] (Nat.le_refl _) (by omega) rfl).reads
      have b13 : Below w12.heap.size w12 (w12.alloc (.cells #[.int .i64 7, .int .i64 8] 3)) := (by repeat (first | exact Below.refl _ _ | assumption | refine Below.alloc ?_ (by simp <;> omega) _ | refine Below.setCell ?_ (by simp <;> omega) _ | refine Below.drew ?_))
      replace r1 := (r1.below b13).more b13.size
      replace r2 := (r2.below b13).more b13.size
      replace q1 := q1.below b13
      replace hB := below_trans hB (Nat.le_refl _) b13
      clear b13
      refine (iLockRegs_c A2 _ c2 2 x n [7, 8] _ r2 rM4 (by omega) (by decide) HOX.out).mono ?_
      rintro e w14 ⟨z2, T2, tc2, U2, uc2, rfl, hz2, I2, b14⟩
      replace r1 := (r1.below b14).more b14.size
      replace r2 := (r2.below b14).more b14.size
      replace rM4 := (rM4.below b14).more b14.size
      replace q1 := q1.below b14
      replace hB := below_trans hB (Nat.le_refl _) b14
      clear b14
      clear rM4
      have hs2 : (lockS x (n : Int).toNat [7, 8]).regs.length = z2.n := by rw [hz2]; exact (lockS_len HOX.out).len
      have q2 := I2.rows hs2
      rw [← hs2]
      clear I2 hz2 hs2
      simp only [Int.toNat_natCast] at q1 q2 ⊢
      rw [HR2.out.2.2] at q2 ⊢
      have hrr : (lockS l n [7, 8]).regs.length ≤ 8 := by have := (lockS_len HO.out); rw [Int.toNat_natCast] at this; rw [this.len]; omega
      generalize (lockS l n [7, 8]).regs = rows at *
      go_wp2_with fail
      refine (sameRows_c z1.rg z2.rg z1.rc z2.rc z1.rk z2.rk rows w14 q1 q2 (by omega)).mono ?_
      rintro e w15 ⟨rfl, b15⟩
      replace r1 := (r1.below b15).more b15.size
      replace r2 := (r2.below b15).more b15.size
      replace q1 := q1.below b15
      replace q2 := q2.below b15
      replace hB := below_trans hB (Nat.le_refl _) b15
      clear b15
      clear q1
      clear q2
      go_wp2_with fail
      refine (iPickPlaces_c A1 c1 l w15 r1 (by omega)).mono ?_
      rintro e w16 ⟨A5, c5, rfl, o5, b16⟩
      replace r1 := (r1.below b16).more b16.size
      replace r2 := (r2.below b16).more b16.size
      replace hB := below_trans hB (Nat.le_refl _) b16
      clear b16
      clear o5
      have hlen := HL.out
      generalize (picksI l l.length).length = K at *
      have e1 : IntKind.i64.wrap (2 * (K : Int)) = 2 * (K : Int) := IntWalk.i64_in _ (by omega)
      have e2 : IntKind.i64.wrap ((l.length : Int) - 2 * (K : Int)) = (x.length : Int) := by rw [IntWalk.i64_in _ (by omega)]; omega
      have e3 : ((x.length : Int) == (x.length : Int)) = true := by simp
      clear hlen
      trace_state
      go_wp2_with fail
      refine (iPickPlaces_c A2 c2 x w16 r2 (by omega)).mono ?_
      rintro e w17 ⟨A6, c6, rfl, o6, b17⟩
      replace r1 := (r1.below b17).more b17.size
      replace r2 := (r2.below b17).more b17.size
      replace hB := below_trans hB (Nat.le_refl _) b17
      clear b17
      clear o6
      rw [HN.out]
      go_wp2
      go_ret
      exact ⟨rfl, hB⟩
end Go.Proofs.Ytcaibhjdahmjeaa
